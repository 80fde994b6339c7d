import Derived.Test.YtkfoohgkbafafaaDoorS6s
namespace Go.Ab.S6
set_option linter.unusedVariables false
set_option linter.unusedSimpArgs false
variable {α : Type} {h : H}
theorem put_put (h : H) (i : Nat) (a b : Option Blk) : (h.put i a).put i b = h.put i b := by
  unfold H.put
  simp only [H.mk.injEq, true_and]
  funext j
  cases Nat.beq j i <;> rfl
abbrev tkC (t : Tok) : Blk := .cells [.int .i64 t.kind, .int .i64 t.pos, .str t.text, .int .i64 t.num] true
theorem st4_run {q : Nat} {v0 v1 v2 v3 : V} (hq : h.get q = some (.cells [v0, v1, v2, v3] true)) (t : Tok) (K : M α) :
    (st1 ((⟨q, 0⟩ : Ad).add 0) (.int .i64 t.kind) <| st1 ((⟨q, 0⟩ : Ad).add 1) (.int .i64 t.pos) <| st1 ((⟨q, 0⟩ : Ad).add 2) (.str t.text) <| st1 ((⟨q, 0⟩ : Ad).add 3) (.int .i64 t.num) K) h = K (h.put q (some (tkC t))) := by
  simp only [add_mk, Nat.zero_add]
  rw [st1_run (a := ⟨q, 0⟩) hq rfl (by simp), st1_run (a := ⟨q, 1⟩) (by rw [put_get]) rfl (by simp), put_put, st1_run (a := ⟨q, 2⟩) (by rw [put_get]) rfl (by simp), put_put, st1_run (a := ⟨q, 3⟩) (by rw [put_get]) rfl (by simp), put_put]
  rfl
theorem tk4_all {t : Tok} {q : Nat} (hq : h.get q = some (tkC t)) (K : Int → Int → List UInt8 → Int → M α) :
    (ldI .i64 ((⟨q, 0⟩ : Ad).add 0) fun y0 => ldI .i64 ((⟨q, 0⟩ : Ad).add 1) fun y1 => ldStr ((⟨q, 0⟩ : Ad).add 2) fun y2 => ldI .i64 ((⟨q, 0⟩ : Ad).add 3) fun y3 => K y0 y1 y2 y3) h = K t.kind t.pos t.text t.num h := by
  simp only [add_mk]
  rw [ldI_run (by rw [cell_of (a := ⟨q, 0 + 0⟩) hq]; rfl), ldI_run (by rw [cell_of (a := ⟨q, 0 + 1⟩) hq]; rfl), ldStr_run (by rw [cell_of (a := ⟨q, 0 + 2⟩) hq]; rfl), ldI_run (by rw [cell_of (a := ⟨q, 0 + 3⟩) hq]; rfl)]
theorem tk4_pos {t : Tok} {q : Nat} (hq : h.get q = some (tkC t)) (K : Int → M α) : ldI .i64 (((⟨q, 0⟩ : Ad).add 1).add 0) K h = K t.pos h := ldI_run (by simp only [add_mk]; rw [cell_of (a := ⟨q, 0 + 1 + 0⟩) hq]; rfl)
theorem tk4_text {t : Tok} {q : Nat} (hq : h.get q = some (tkC t)) (K : List UInt8 → M α) : ldStr (((⟨q, 0⟩ : Ad).add 2).add 0) K h = K t.text h := ldStr_run (by simp only [add_mk]; rw [cell_of (a := ⟨q, 0 + 2 + 0⟩) hq]; rfl)
theorem tk_copy {z0 z1 z3 : Int} {z2 : List UInt8} (t : Tok) (K : Ad → M α) :
    new [.int .i64 z0, .int .i64 z1, .str z2, .int .i64 z3] (fun n => st1 (n.add 0) (.int .i64 t.kind) <| st1 (n.add 1) (.int .i64 t.pos) <| st1 (n.add 2) (.str t.text) <| st1 (n.add 3) (.int .i64 t.num) <| K n) h =
      K ⟨h.next, 0⟩ (h.push (tkC t)) := by
  rw [new_run rfl]
  simp only [add_mk, Nat.zero_add]
  rw [st1_new rfl (by simp), st1_new rfl (by simp), st1_new rfl (by simp), st1_new rfl (by simp)]
  rfl
theorem Tok.len (t : Tok) : t.cells.length = 4 := rfl
abbrev TkR (h : H) (s : Sl) (l : List Tok) : Prop := Rd h s 4 (cellsL l)
section
variable {s : Sl} {l : List Tok}
theorem tk_slen (r : TkR h s l) : s.len = l.length := slen (c := Tok.cells) Tok.len (by decide) r
theorem tk_cell (r : TkR h s l) {i : Nat} {n : Tok} (hi : l[i]? = some n) {j : Nat} {v : V} (hv : n.cells[j]? = some v) (hj : j < 4) : (cellsL l)[i * 4 + j]? = some v :=
  (flat_get Tok.len l i n j hi hj).trans hv
theorem tk_idx (r : TkR h s l) {x : Int} {i : Nat} {n : Tok} (hx : x = (i : Int)) (hi : l[i]? = some n) (K : Ad → M α) : idxSl s x 4 K h = K (s.at (i * 4)) h :=
  idx_run r hx (by rw [tk_slen r]; exact get_lt hi) K
theorem tk_kind (r : TkR h s l) {x : Int} {i : Nat} {n : Tok} (hx : x = (i : Int)) (hi : l[i]? = some n) (K : Int → M α) : idxSl s x 4 (fun a => ldI .i64 ((a.add 0).add 0) K) h = K n.kind h := by
  rw [tk_idx r hx hi, at_add, at_add]; exact r.ldI (tk_cell r hi (j := 0) rfl (by decide)) K
theorem tk_pos (r : TkR h s l) {x : Int} {i : Nat} {n : Tok} (hx : x = (i : Int)) (hi : l[i]? = some n) (K : Int → M α) : idxSl s x 4 (fun a => ldI .i64 ((a.add 1).add 0) K) h = K n.pos h := by
  rw [tk_idx r hx hi, at_add, at_add]; exact r.ldI (tk_cell r hi (j := 1) rfl (by decide)) K
theorem tk_text (r : TkR h s l) {x : Int} {i : Nat} {n : Tok} (hx : x = (i : Int)) (hi : l[i]? = some n) (K : List UInt8 → M α) : idxSl s x 4 (fun a => ldStr ((a.add 2).add 0) K) h = K n.text h := by
  rw [tk_idx r hx hi, at_add, at_add]; exact r.ldStr (tk_cell r hi (j := 2) rfl (by decide)) K
theorem tk_all (r : TkR h s l) {x : Int} {i : Nat} {n : Tok} (hx : x = (i : Int)) (hi : l[i]? = some n) (K : Int → Int → List UInt8 → Int → M α) :
    idxSl s x 4 (fun a => ldI .i64 (a.add 0) fun x0 => ldI .i64 (a.add 1) fun x1 => ldStr (a.add 2) fun x2 => ldI .i64 (a.add 3) fun x3 => K x0 x1 x2 x3) h = K n.kind n.pos n.text n.num h := by
  rw [tk_idx r hx hi]
  simp only [at_add]
  rw [r.ldI (tk_cell r hi (j := 0) rfl (by decide)), r.ldI (tk_cell r hi (j := 1) rfl (by decide)), r.ldStr (tk_cell r hi (j := 2) rfl (by decide)), r.ldI (tk_cell r hi (j := 3) rfl (by decide))]
end
theorem from_id {s : Sl} {n m size : Nat} {b : Ad} (hb : s.from n m size = some b) : ∃ a, s.ad = some a ∧ a.id = b.id := by
  unfold Sl.from at hb
  cases hls : s.ad with
  | none =>
    rw [hls] at hb
    cases hlo : s.loose with
    | none => rw [hlo] at hb; dsimp only at hb; cases hq : Nat.beq m n <;> simp [hq] at hb
    | some e => rw [hlo] at hb; cases hb
  | some a =>
    rw [hls] at hb
    refine ⟨a, rfl, ?_⟩
    cases hlo : s.loose with
    | none =>
      rw [hlo] at hb
      dsimp only at hb
      cases hq : Nat.beq m n with
      | true => rw [hq, cond_true] at hb; cases hb; rfl
      | false => rw [hq, cond_false] at hb; cases hb; rfl
    | some e => rw [hlo] at hb; cases hb; rfl
structure PS (h₀ h : H) (p tb : Nat) (ls fs : Sl) (s : St) : Prop where
  ext : Ext h₀ h
  p0 : h₀.next ≤ p
  plt : p < h.next
  blk : h.get p = some (.cells [.slice ls, .int .i64 (s.made : Int), .slice fs] true)
  toks : TkR h ls s.l
  fine : ls.fine 4
  nodes : App h fs 5 (cN s.f)
  low : Owned h₀ fs
  tok : ∀ a, ls.ad = some a → a.id = tb
  tp : tb ≠ p
  tl : tb < h.next
  fp : ∀ a, fs.ad = some a → a.id ≠ p ∧ a.id ≠ tb
  ends : Ends s.l
  bal : s.f.length ≤ s.made
  m60 : s.made ≤ 60
structure QP (p : Nat) (fs fs' : Sl) (h h' : H) : Prop where
  nx : h.next ≤ h'.next
  keep : ∀ i, i < h.next → i ≠ p → (∀ a, fs.ad = some a → i ≠ a.id) → h'.get i = h.get i
  nf : ∀ a, fs'.ad = some a → h.next ≤ a.id ∨ fs'.ad = fs.ad
theorem QP.refl (p : Nat) (fs : Sl) (h : H) : QP p fs fs h h := ⟨Nat.le_refl _, fun _ _ _ _ => rfl, fun _ _ => .inr rfl⟩
theorem QP.of {p : Nat} {fs : Sl} {h h' : H} (x : Ext h h') : QP p fs fs h h' := ⟨x.1, fun i hi _ _ => x.2 i hi, fun _ _ => .inr rfl⟩
theorem QP.trans {p : Nat} {a b c : Sl} {h h' h'' : H} (x : QP p a b h h') (y : QP p b c h' h'') : QP p a c h h'' := by
  refine ⟨Nat.le_trans x.nx y.nx, fun i hi hp ha => ?_, fun q hq => ?_⟩
  · rw [y.keep i (Nat.lt_of_lt_of_le hi x.nx) hp (fun q hq => ?_), x.keep i hi hp ha]
    rcases x.nf q hq with h | h
    · omega
    · exact ha q (by rw [← h]; exact hq)
  · rcases y.nf q hq with h | h
    · exact .inl (Nat.le_trans x.nx h)
    · rw [h] at hq
      rcases x.nf q hq with h' | h'
      · exact .inl h'
      · exact .inr (h.trans h')
section
variable {h₀ : H} {p tb : Nat} {ls fs : Sl} {s : St}
theorem PS.push (P : PS h₀ h p tb ls fs s) {h' : H} (x : Ext h h') : PS h₀ h' p tb ls fs s :=
  ⟨P.ext.trans x, P.p0, Nat.lt_of_lt_of_le P.plt x.1, by rw [x.2 p P.plt]; exact P.blk, P.toks.ext x, P.fine, P.nodes.ext x, P.low, P.tok, P.tp, Nat.lt_of_lt_of_le P.tl x.1, P.fp, P.ends, P.bal, P.m60⟩
theorem PS.setblk (P : PS h₀ h p tb ls fs s) {ls' : Sl} {s' : St} (hf : s'.f = s.f) (ht : TkR h ls' s'.l) (hfine : ls'.fine 4) (had : ∀ b, ls'.ad = some b → ∃ a, ls.ad = some a ∧ a.id = b.id) (he : Ends s'.l) (hb : s'.f.length ≤ s'.made) (hm : s'.made ≤ 60) :
    PS h₀ (h.put p (some (.cells [.slice ls', .int .i64 (s'.made : Int), .slice fs] true))) p tb ls' fs s' := by
  have hg : ∀ i, i ≠ p → (h.put p (some (.cells [.slice ls', .int .i64 (s'.made : Int), .slice fs] true))).get i = h.get i := fun i hi => by rw [put_get_if, if_neg hi]
  have htb : ∀ b, ls'.ad = some b → b.id = tb := fun b hb => by
    obtain ⟨a, ha, e⟩ := had b hb
    rw [← e]; exact P.tok a ha
  refine ⟨P.ext.put _ P.p0, P.p0, P.plt, by rw [put_get], ht.keep (Nat.le_refl _) fun b hb => hg _ (by rw [htb b hb]; exact P.tp), hfine, ?_, P.low, htb, P.tp, P.tl, P.fp, he, hb, hm⟩
  rw [hf]; exact P.nodes.keep (Nat.le_refl _) fun a ha => hg _ (P.fp a ha).1
theorem qp_put (b : Option Blk) : QP p fs fs h (h.put p b) := ⟨Nat.le_refl _, fun i _ hi _ => by rw [put_get_if, if_neg hi], fun _ _ => .inr rfl⟩
theorem p_l (P : PS h₀ h p tb ls fs s) (K : Sl → M α) : ldS (((⟨p, 0⟩ : Ad).add 0).add 0) K h = K ls h := ldS_run (by simp only [add_mk]; rw [cell_of P.blk]; rfl)
theorem p_made (P : PS h₀ h p tb ls fs s) (K : Int → M α) : ldI .i64 (((⟨p, 0⟩ : Ad).add 1).add 0) K h = K s.made h := ldI_run (by simp only [add_mk]; rw [cell_of P.blk]; rfl)
theorem p_f (P : PS h₀ h p tb ls fs s) (K : Sl → M α) : ldS (((⟨p, 0⟩ : Ad).add 2).add 0) K h = K fs h := ldS_run (by simp only [add_mk]; rw [cell_of P.blk]; rfl)
theorem PS.hd (P : PS h₀ h p tb ls fs s) : s.l[0]? = some s.hd := by
  obtain ⟨t, r, hl⟩ := P.ends.ne
  unfold St.hd
  rw [hl]; rfl
theorem is_run (P : PS h₀ h p tb ls fs s) (k : Nat) (sign : List UInt8) (ret : Bool → M α) : spis.f (k + 1) ⟨p, 0⟩ sign ret h = ret (isS sign s) h := by
  rw [spis.f, spis.u1.f, p_l P, tk_kind P.toks (x := 0) (i := 0) rfl P.hd]
  unfold isS
  by_cases h5 : s.hd.kind = 5
  · rw [dT h5, cond_true, p_l P, tk_text P.toks (x := 0) (i := 0) rfl P.hd, Bool.true_and]
  · rw [dF h5, cond_false, Bool.false_and]
theorem wrong_run (P : PS h₀ h p tb ls fs s) (k : Nat) (pan : V → M α) (ret : M α) : spwrong.f (k + 1) ⟨p, 0⟩ pan ret h = pan (.iface 55 (.agg [.int .i64 (wrongE s).1, .int .i64 (wrongE s).2])) h := by
  rw [spwrong.f, spwrong.u1.f, p_l P, tk_kind P.toks (x := 0) (i := 0) rfl P.hd]
  unfold wrongE
  by_cases h5 : s.hd.kind = 0
  · rw [dT h5, cond_true, p_l P, tk_pos P.toks (x := 0) (i := 0) rfl P.hd, if_pos h5]
  · rw [dF h5, cond_false, p_l P, tk_pos P.toks (x := 0) (i := 0) rfl P.hd, if_neg h5]
theorem PS.other (P : PS h₀ h p tb ls fs s) {i : Nat} (b : Blk) (hi : h₀.next ≤ i) (hp : i ≠ p) (hl : tb ≠ i) (hf : ∀ a, fs.ad = some a → a.id ≠ i) : PS h₀ (h.put i (some b)) p tb ls fs s := by
  have hg : ∀ j, j ≠ i → (h.put i (some b)).get j = h.get j := fun j hj => by rw [put_get_if, if_neg hj]
  exact ⟨P.ext.put _ hi, P.p0, P.plt, by rw [hg _ (Ne.symm hp)]; exact P.blk, P.toks.keep (Nat.le_refl _) (fun a ha => hg _ (by rw [P.tok a ha]; exact hl)), P.fine, P.nodes.keep (Nat.le_refl _) (fun a ha => hg _ (hf a ha)), P.low, P.tok, P.tp, P.tl, P.fp, P.ends, P.bal, P.m60⟩
theorem next_run (P : PS h₀ h p tb ls fs s) (k : Nat) (hk : s.hd.kind ≠ 0) :
    ∃ h' ls', (∀ (α : Type) (ret : Int → Int → List UInt8 → Int → M α), spnext.f (k + 1) ⟨p, 0⟩ ret h = ret s.hd.kind s.hd.pos s.hd.text s.hd.num h') ∧ PS h₀ h' p tb ls' fs s.adv ∧ QP p fs fs h h' := by
  have he := adv_ends P.ends hk
  obtain ⟨t, r, hl⟩ := P.ends.ne
  have hhd : s.hd = t := by unfold St.hd; rw [hl]; rfl
  have hadv : s.adv = { s with l := r } := by unfold St.adv; rw [hl]; rfl
  have hlen : ls.len = r.length + 1 := by rw [tk_slen P.toks, hl]; rfl
  -- the two copies
  have x2 : Ext h ((h.push (.cells [.int .i64 0, .int .i64 0, .str [], .int .i64 0] true)).push (tkC t)) := ((Ext.refl h).push _).push _
  have hn2 : ((h.push (.cells [.int .i64 0, .int .i64 0, .str [], .int .i64 0] true)).push (tkC t)).next = h.next + 2 := rfl
  have P1 := P.push ((Ext.refl h).push (.cells [.int .i64 0, .int .i64 0, .str [], .int .i64 0] true))
  have P2 := P.push x2
  have hz : ((h.push (.cells [.int .i64 0, .int .i64 0, .str [], .int .i64 0] true)).push (tkC t)).get h.next = some (.cells [.int .i64 0, .int .i64 0, .str [], .int .i64 0] true) := by
    rw [push_get, if_neg (by rw [push_next]; omega), push_get, if_pos rfl]
  have ht : ((h.push (.cells [.int .i64 0, .int .i64 0, .str [], .int .i64 0] true)).push (tkC t)).get (h.next + 1) = some (tkC t) := by rw [push_get, if_pos (by rw [push_next])]
  have start : ∀ (α : Type) (ret : Int → Int → List UInt8 → Int → M α), spnext.f (k + 1) ⟨p, 0⟩ ret h = _ := fun α ret => by
    rw [spnext.f, spnext.u1.f, new_run rfl, p_l P1, tk_all P1.toks (x := 0) (i := 0) (n := t) rfl (by rw [hl]; rfl), tk_copy]
  rw [show (h.push (.cells [.int .i64 0, .int .i64 0, .str [], .int .i64 0] true)).next = h.next + 1 from rfl] at start
  generalize (h.push (.cells [.int .i64 0, .int .i64 0, .str [], .int .i64 0] true)).push (tkC t) = h2 at start x2 hn2 P2 hz ht
  have rf := P2.toks.from 1 (ls.cap - 1) ls.cap ls.loose (by omega) P2.fine.1
  have hdr : (cellsL s.l).drop (1 * 4) = cellsL r := by
    rw [hl]
    exact flat_drop (c := Tok.cells) (size := 4) Tok.len (t :: r) 1
  rw [hdr] at rf
  have P3 := P2.setblk (ls' := ⟨ls.from 1 ls.cap 4, ls.len - 1, ls.cap - 1, ls.loose⟩) (s' := { s with l := r }) rfl rf ⟨by show ls.len - 1 ≤ ls.cap - 1; have := P.fine.1; omega, P.fine.2⟩ (fun b hb => from_id hb) (by rw [hadv] at he; exact he) P.bal P.m60
  have q3 : QP p fs fs h2 (h2.put p (some (.cells [.slice ⟨ls.from 1 ls.cap 4, ls.len - 1, ls.cap - 1, ls.loose⟩, .int .i64 (s.made : Int), .slice fs] true))) := qp_put _
  have hg3 : ∀ i, i ≠ p → (h2.put p (some (.cells [.slice ⟨ls.from 1 ls.cap 4, ls.len - 1, ls.cap - 1, ls.loose⟩, .int .i64 (s.made : Int), .slice fs] true))).get i = h2.get i := fun i hi => by rw [put_get_if, if_neg hi]
  have e3 : ∀ (α : Type) (K : M α), st1 (((⟨p, 0⟩ : Ad).add 0).add 0) (.slice ⟨ls.from 1 ls.cap 4, ls.len - 1, ls.cap - 1, ls.loose⟩) K h2 = K (h2.put p (some (.cells [.slice ⟨ls.from 1 ls.cap 4, ls.len - 1, ls.cap - 1, ls.loose⟩, .int .i64 (s.made : Int), .slice fs] true))) := fun α K => by
    simp only [add_mk]
    rw [st1_run (a := ⟨p, 0 + 0 + 0⟩) P2.blk rfl (by simp)]
    rfl
  have hn3 : (h2.put p (some (.cells [.slice ⟨ls.from 1 ls.cap 4, ls.len - 1, ls.cap - 1, ls.loose⟩, .int .i64 (s.made : Int), .slice fs] true))).next = h2.next := rfl
  generalize h2.put p (some (.cells [.slice ⟨ls.from 1 ls.cap 4, ls.len - 1, ls.cap - 1, ls.loose⟩, .int .i64 (s.made : Int), .slice fs] true)) = h3 at P3 q3 e3 hg3 hn3
  have hpl := P.plt
  have hz3 : h3.get h.next = some (.cells [.int .i64 0, .int .i64 0, .str [], .int .i64 0] true) := by rw [hg3 _ (by omega)]; exact hz
  have ht3 : h3.get (h.next + 1) = some (tkC t) := by rw [hg3 _ (by omega)]; exact ht
  have hfs : ∀ a, fs.ad = some a → a.id < h.next := fun a ha => (P.nodes.rd.row a ha).2
  have hls : ∀ a, ls.ad = some a → a.id < h.next := fun a ha => (P.toks.row a ha).2
  -- the answer's own copy
  have P4 := P3.other (tkC t) (i := h.next) P.ext.1 (by omega) (by have := P.tl; omega) (fun a ha => by have := hfs a ha; omega)
  refine ⟨h3.put h.next (some (tkC t)), _, fun α ret => ?_, by rw [hadv]; exact P4, ⟨by show h.next ≤ h3.next; omega, fun i hi hp _ => by rw [put_get_if, if_neg (by omega), hg3 i hp, x2.2 i hi], fun _ _ => .inr rfl⟩⟩
  · rw [start, p_l P2, cut_from P2.fine (x := 1) (n := 1) rfl (by omega), e3, tk4_all ht3, st4_run hz3]
    have hq4 : (h3.put h.next (some (tkC t))).get h.next = some (tkC t) := by rw [put_get]
    rw [tk4_all hq4, hhd]
theorem PS.lts (P : PS h₀ h p tb ls fs s) : (∀ a, ls.ad = some a → a.id < h.next) ∧ ∀ a, fs.ad = some a → a.id < h.next := ⟨fun a ha => (P.toks.row a ha).2, fun a ha => (P.nodes.rd.row a ha).2⟩
abbrev thrown (e : Er) : V := .iface 55 (.agg [.int .i64 e.1, .int .i64 e.2])
theorem makes_run (P : PS h₀ h p tb ls fs s) (k : Nat) (hk : s.hd.kind ≠ 0) :
    match makesE s with
    | .error e => ∃ h', Ext h₀ h' ∧ ∀ (α : Type) (pan : V → M α) (ret : Int → Int → List UInt8 → Int → M α), spmakes.f (k + 2) ⟨p, 0⟩ pan ret h = pan (thrown e) h'
    | .ok x => ∃ h' ls', (∀ (α : Type) (pan : V → M α) (ret : Int → Int → List UInt8 → Int → M α), spmakes.f (k + 2) ⟨p, 0⟩ pan ret h = ret x.1.kind x.1.pos x.1.text x.1.num h') ∧ PS h₀ h' p tb ls' fs x.2 ∧ QP p fs fs h h' := by
  have x1 : Ext h (h.push (.cells [.int .i64 0, .int .i64 0, .str [], .int .i64 0] true)) := (Ext.refl h).push _
  have P1 := P.push x1
  have hz : (h.push (.cells [.int .i64 0, .int .i64 0, .str [], .int .i64 0] true)).get h.next = some (.cells [.int .i64 0, .int .i64 0, .str [], .int .i64 0] true) := by rw [push_get, if_pos rfl]
  have hn1 : (h.push (.cells [.int .i64 0, .int .i64 0, .str [], .int .i64 0] true)).next = h.next + 1 := rfl
  have start : ∀ (α : Type) (pan : V → M α) (ret : Int → Int → List UInt8 → Int → M α), spmakes.f (k + 2) ⟨p, 0⟩ pan ret h = _ := fun α pan ret => by
    rw [spmakes.f, spmakes.u1.f, new_run rfl, p_made P1]
  generalize h.push (.cells [.int .i64 0, .int .i64 0, .str [], .int .i64 0] true) = h1 at start x1 P1 hz hn1
  have hpl := P.plt
  have hlts := P.lts
  unfold makesE
  by_cases h60 : s.made = 60
  · rw [if_pos h60]
    refine ⟨h1, P1.ext, fun α pan ret => ?_⟩
    rw [start, dT (by rw [h60]; rfl), cond_true, p_l P1, tk_pos P1.toks (x := 0) (i := 0) rfl P1.hd]
  rw [if_neg h60]
  have hm := P.m60
  have hb := P.bal
  -- one more is made
  have P2 := P1.setblk (ls' := ls) (s' := { s with made := s.made + 1 }) rfl P1.toks P1.fine (fun b hb => ⟨b, hb, rfl⟩) P1.ends (by show s.f.length ≤ s.made + 1; omega) (by show s.made + 1 ≤ 60; omega)
  have q2 : QP p fs fs h1 (h1.put p (some (.cells [.slice ls, .int .i64 ((s.made + 1 : Nat) : Int), .slice fs] true))) := qp_put _
  have e2 : ∀ (α : Type) (K : M α), st1 (((⟨p, 0⟩ : Ad).add 1).add 0) (.int .i64 ((s.made + 1 : Nat) : Int)) K h1 = K (h1.put p (some (.cells [.slice ls, .int .i64 ((s.made + 1 : Nat) : Int), .slice fs] true))) := fun α K => by
    simp only [add_mk]
    rw [st1_run (a := ⟨p, 0 + 1 + 0⟩) P1.blk rfl (by simp)]
    rfl
  have hz2 : (h1.put p (some (.cells [.slice ls, .int .i64 ((s.made + 1 : Nat) : Int), .slice fs] true))).get h.next = some (.cells [.int .i64 0, .int .i64 0, .str [], .int .i64 0] true) := by rw [put_get_if, if_neg (by omega)]; exact hz
  have hn2 : (h1.put p (some (.cells [.slice ls, .int .i64 ((s.made + 1 : Nat) : Int), .slice fs] true))).next = h1.next := rfl
  generalize h1.put p (some (.cells [.slice ls, .int .i64 ((s.made + 1 : Nat) : Int), .slice fs] true)) = h2 at P2 q2 e2 hz2 hn2
  obtain ⟨h3, ls3, e3, P3, q3⟩ := next_run P2 k hk
  have hf3 : ∀ a, fs.ad = some a → a.id ≠ h.next := fun a ha => by have := hlts.2 a ha; omega
  have hz3 : h3.get h.next = some (.cells [.int .i64 0, .int .i64 0, .str [], .int .i64 0] true) := by
    rw [q3.keep h.next (by omega) (by omega) (fun a ha => Ne.symm (hf3 a ha))]; exact hz2
  have P4 := P3.other (tkC s.hd) (i := h.next) P.ext.1 (by omega) (by have := P.tl; omega) hf3
  refine ⟨h3.put h.next (some (tkC s.hd)), ls3, fun α pan ret => ?_, P4, ⟨by show h.next ≤ h3.next; have := q3.nx; omega, fun i hi hp ha => by rw [put_get_if, if_neg (by omega), q3.keep i (by omega) hp ha, q2.keep i (by omega) hp ha, x1.2 i hi], fun _ _ => .inr rfl⟩⟩
  rw [start, dF (by omega : ¬ (s.made : Int) = 60), cond_false, p_made P1, w64_eq (by omega) (by omega)]
  refine (e2 α _).trans ?_
  rw [e3]
  show (st1 ((⟨h.next, 0⟩ : Ad).add 0) (.int .i64 s.hd.kind) <| st1 ((⟨h.next, 0⟩ : Ad).add 1) (.int .i64 s.hd.pos) <| st1 ((⟨h.next, 0⟩ : Ad).add 2) (.str s.hd.text) <| st1 ((⟨h.next, 0⟩ : Ad).add 3) (.int .i64 s.hd.num) _) h3 = _
  rw [st4_run hz3, tk4_all (t := s.hd) (by rw [put_get])]
end
end Go.Ab.S6
namespace Go.Ab.S6
set_option linter.unusedVariables false
set_option linter.unusedSimpArgs false
variable {α : Type} {h h₀ : H} {p tb : Nat} {ls fs : Sl} {s : St}
theorem need_run' (P : PS h₀ h p tb ls fs s) (k : Nat) (sign : List UInt8) :
    match needE sign s with
    | .error e => ∀ (α : Type) (pan : V → M α) (ret : M α), spneed.f (k + 2) ⟨p, 0⟩ sign pan ret h = pan (thrown e) h
    | .ok s' => ∃ h' ls', (∀ (α : Type) (pan : V → M α) (ret : M α), spneed.f (k + 2) ⟨p, 0⟩ sign pan ret h = ret h') ∧ PS h₀ h' p tb ls' fs s' ∧ QP p fs fs h h' := by
  unfold needE
  by_cases hs : isS sign s = true
  · rw [if_pos hs]
    obtain ⟨h', ls', e', P', q'⟩ := next_run P k (by rw [isS_kind hs]; decide)
    refine ⟨h', ls', fun α pan ret => ?_, P', q'⟩
    rw [spneed.f, spneed.u1.f, is_run P, hs, Bool.not_true, cond_false, e']
  · rw [if_neg hs]
    intro α pan ret
    rw [spneed.f, spneed.u1.f, is_run P, Bool.eq_false_iff.2 hs, Bool.not_false, cond_true, wrong_run P]
theorem step_run (P : PS h₀ h p tb ls fs s) (k : Nat) (shut : List UInt8) :
    match stepE shut s with
    | .error e => ∃ h', Ext h₀ h' ∧ ∀ (α : Type) (pan : V → M α) (ret : List UInt8 → M α), spstep.f (k + 3) ⟨p, 0⟩ shut pan ret h = pan (thrown e) h'
    | .ok z => ∃ h' ls', (∀ (α : Type) (pan : V → M α) (ret : List UInt8 → M α), spstep.f (k + 3) ⟨p, 0⟩ shut pan ret h = ret z.1 h') ∧ PS h₀ h' p tb ls' fs z.2 ∧ QP p fs fs h h' := by
  unfold stepE
  by_cases hc : isS [45] s = true ∨ (s.hd.kind = 2 ∧ wordsF s.hd.text = false)
  · rw [if_pos hc]
    have hk : s.hd.kind ≠ 0 := by
      rcases hc with hc | hc
      · rw [isS_kind hc]; decide
      · rw [hc.1]; decide
    obtain ⟨h1, ls1, e1, P1, q1⟩ := next_run P (k + 1) hk
    have start : ∀ (α : Type) (pan : V → M α) (ret : List UInt8 → M α), spstep.f (k + 3) ⟨p, 0⟩ shut pan ret h = spneed.f (k + 2) ⟨p, 0⟩ shut pan (ret s.hd.text) h1 := fun α pan ret => by
      rw [spstep.f, spstep.u1.f, is_run P]
      by_cases h45 : isS [45] s = true
      · rw [h45, Bool.not_true, cond_false, e1]
      · have h2 := hc.resolve_left h45
        rw [Bool.eq_false_iff.2 h45, Bool.not_false, cond_true, p_l P, tk_kind P.toks (x := 0) (i := 0) rfl P.hd, dT h2.1, Bool.not_true, cond_false, p_l P, tk_text P.toks (x := 0) (i := 0) rfl P.hd, word_run, h2.2, cond_false, e1]
    have hn := need_run' P1 k shut
    cases hne : needE shut s.adv with
    | error e =>
      rw [hne] at hn
      exact ⟨h1, P1.ext, fun α pan ret => (start α pan ret).trans (hn α pan _)⟩
    | ok s' =>
      rw [hne] at hn
      obtain ⟨h2, ls2, e2, P2, q2⟩ := hn
      exact ⟨h2, ls2, fun α pan ret => (start α pan ret).trans (e2 α pan _), P2, q1.trans q2⟩
  · rw [if_neg hc]
    refine ⟨h, P.ext, fun α pan ret => ?_⟩
    have h45 : ¬ isS [45] s = true := fun e => hc (.inl e)
    rw [spstep.f, spstep.u1.f, is_run P, Bool.eq_false_iff.2 h45, Bool.not_false, cond_true, p_l P, tk_kind P.toks (x := 0) (i := 0) rfl P.hd]
    by_cases h2 : s.hd.kind = 2
    · have hw : wordsF s.hd.text = true := by
        cases hq : wordsF s.hd.text with
        | true => rfl
        | false => exact absurd (.inr ⟨h2, hq⟩) hc
      rw [dT h2, Bool.not_true, cond_false, p_l P, tk_text P.toks (x := 0) (i := 0) rfl P.hd, word_run, hw, cond_true, wrong_run P]
    · rw [dF h2, Bool.not_false, cond_true, wrong_run P]
theorem lay_run (P : PS h₀ h p tb ls fs s) (k : Nat) (n : Nd) (hlt : s.f.length < s.made) :
    ∃ h' fs', (∀ (α : Type) (ret : Int → M α), spnode.f (k + 1) ⟨p, 0⟩ n.kind n.a n.b n.name n.pos ret h = ret (layE n s).1 h') ∧ PS h₀ h' p tb ls fs' (layE n s).2 ∧ QP p fs fs' h h' := by
  have hm := P.m60
  have hfl : fs.len = s.f.length := slen Nd.len (by decide) P.nodes.rd
  have x1 : Ext h (h.push (ndC n)) := (Ext.refl h).push _
  have hq : (h.push (ndC n)).get h.next = some (ndC n) := by rw [push_get, if_pos rfl]
  have P1 := P.push x1
  have e1 : ∀ (α : Type) (K : Ad → M α), new [.int .i64 n.kind, .int .i64 n.a, .int .i64 n.b, .str n.name, .int .i64 n.pos] K h = K ⟨h.next, 0⟩ (h.push (ndC n)) := fun α K => new_run rfl
  have hn1 : (h.push (ndC n)).next = h.next + 1 := rfl
  generalize h.push (ndC n) = h1 at x1 hq P1 e1 hn1
  have x2 : Ext h1 (h1.push (ndC n)) := (Ext.refl h1).push _
  have P2 := P1.push x2
  have e2 : ∀ (α : Type) (K : Ad → M α), new [.int .i64 n.kind, .int .i64 n.a, .int .i64 n.b, .str n.name, .int .i64 n.pos] K h1 = K ⟨h1.next, 0⟩ (h1.push (ndC n)) := fun α K => new_run rfl
  have rp : Rd (h1.push (ndC n)) ⟨some ⟨h1.next, 0⟩, 1, 1, none⟩ 5 n.cells := Rd.pushed h1 rfl
  have hn2 : (h1.push (ndC n)).next = h1.next + 1 := rfl
  generalize h1.push (ndC n) = h2 at x2 P2 e2 rp hn2
  obtain ⟨h3, e3, ap3, g3, k3⟩ := app_row (bytes := 48) P2.nodes rp (by show 0 < 1; decide) (by decide) (by show (fs.len + 1 + (fs.len + 1) / 4 + 512) * 48 ≤ _; omega)
  dsimp only at e3 ap3
  have hlts := P2.lts
  have keep : ∀ i, i < h2.next → (∀ a, fs.ad = some a → i ≠ a.id) → h3.get i = h2.get i := fun i hi ha => k3.2 i hi fun _ a h => ha a h
  have gp : h3.get p = h2.get p := keep p P2.plt fun a ha => Ne.symm (P2.fp a ha).1
  have hn3 := k3.1
  refine ⟨h3.put p (some (.cells [.slice ls, .int .i64 (s.made : Int), .slice ⟨some ⟨h2.next, 0⟩, fs.len + 1, fs.len + 1, some 5⟩] true)), ⟨some ⟨h2.next, 0⟩, fs.len + 1, fs.len + 1, some 5⟩, fun α ret => ?_, ?_, ?_⟩
  · have e4 : ∀ K : M α, st1 (((⟨p, 0⟩ : Ad).add 2).add 0) (.slice ⟨some ⟨h2.next, 0⟩, fs.len + 1, fs.len + 1, some 5⟩) K h3 = K (h3.put p (some (.cells [.slice ls, .int .i64 (s.made : Int), .slice ⟨some ⟨h2.next, 0⟩, fs.len + 1, fs.len + 1, some 5⟩] true))) := fun K => by
      simp only [add_mk]
      rw [st1_run (a := ⟨p, 0 + 2 + 0⟩) (gp.trans P2.blk) rfl (by simp)]
      rfl
    rw [spnode.f, spnode.u1.f, e1, p_f P1, own_all hq, e2, p_f P2, need_run (by simp), e3, e4, ldS_run (n := ⟨some ⟨h2.next, 0⟩, fs.len + 1, fs.len + 1, some 5⟩) (by simp only [add_mk]; rw [cell_of (a := ⟨p, 0 + 2 + 0⟩) (put_get _ _ _)]; rfl)]
    rw [w64_eq (by dsimp only; omega) (by dsimp only; omega)]
    unfold layE
    dsimp only
    rw [show ((fs.len + 1 : Nat) : Int) - 1 = (s.f.length : Int) by omega]
  · have hg : ∀ i, i ≠ p → (h3.put p (some (.cells [.slice ls, .int .i64 (s.made : Int), .slice ⟨some ⟨h2.next, 0⟩, fs.len + 1, fs.len + 1, some 5⟩] true))).get i = h3.get i := fun i hi => by rw [put_get_if, if_neg hi]
    have hc : cN (s.f ++ [n]) = cN s.f ++ n.cells := by simp [List.flatMap_append]
    have hpl := P2.plt
    have htl := P2.tl
    refine ⟨(k3.ext P2.ext P2.low).put _ P.p0, P.p0, by show p < h3.next; omega, by rw [put_get]; rfl, P2.toks.keep (by show h2.next ≤ h3.next; omega) (fun a ha => ?_), P.fine, ?_, (fun a ha => by cases ha; exact P2.ext.1), P.tok, P.tp, by show tb < h3.next; omega, (fun a ha => by cases ha; exact ⟨by show h2.next ≠ p; omega, by show h2.next ≠ tb; omega⟩), P.ends, ?_, P.m60⟩
    · rw [hg _ (by rw [P.tok a ha]; exact P.tp)]
      exact keep _ (hlts.1 a ha) fun b hb => by rw [P.tok a ha]; exact Ne.symm (P2.fp b hb).2
    · show App _ _ 5 (cN (s.f ++ [n]))
      rw [hc]
      exact ap3.keep (Nat.le_refl _) fun a ha => by cases ha; exact hg _ (by show h2.next ≠ p; omega)
    · show (s.f ++ [n]).length ≤ s.made
      rw [List.length_append]; exact hlt
  · refine ⟨by show h.next ≤ h3.next; omega, fun i hi hp ha => ?_, fun a ha => by cases ha; left; show h.next ≤ h2.next; omega⟩
    rw [put_get_if, if_neg hp, keep i (by omega) ha, x2.2 i (by omega), x1.2 i hi]
def fnO (p : Nat) (o : Bool) : V := if o then .func 34 [.ptr (some ⟨p, 0⟩)] [] else .func 50 [.ptr (some ⟨p, 0⟩)] []
noncomputable def rowF (k : Nat) (o : Bool) (p : Nat) {α : Type} (pan : V → M α) (ret : Int → M α) : M α := if o then spformula.f k ⟨p, 0⟩ pan ret else spand.f k ⟨p, 0⟩ pan ret
noncomputable def cps (k jj : Nat) (p : Nat) (r : Rl) (a : Int) {α : Type} (pan : V → M α) (ret : Int → M α) : M α :=
  match r with
  | .un => spunary.f k ⟨p, 0⟩ pan ret
  | .row o => rowF k o p pan ret
  | .loop o => sprow.u3.l k (fun z0 z1 z2 => spand.f k z0 z1 z2) (fun z0 z1 z2 => spunary.f k z0 z1 z2) ret pan jj ⟨p, 0⟩ (signO o) (kindO o) (fnO p o) a
def RunOk (h₀ h : H) (p tb : Nat) (fs : Sl) (x : Except Er (Int × St)) (C : ∀ α : Type, (V → M α) → (Int → M α) → M α) : Prop :=
  match x with
  | .error e => e.2 ≠ 0 → ∃ h', Ext h₀ h' ∧ ∀ (α : Type) (pan : V → M α) (ret : Int → M α), C α pan ret h = pan (thrown e) h'
  | .ok y => ∃ h' ls' fs', (∀ (α : Type) (pan : V → M α) (ret : Int → M α), C α pan ret h = ret y.1 h') ∧ PS h₀ h' p tb ls' fs' y.2 ∧ QP p fs fs' h h'
theorem QP.tok {fs' : Sl} {h' : H} (q : QP p fs fs' h h') {i : Nat} {b : Blk} (hi : i < h.next) (hp : i ≠ p) (hf : ∀ a, fs.ad = some a → i ≠ a.id) (hb : h.get i = some b) : h'.get i = some b := by rw [q.keep i hi hp hf]; exact hb
theorem copy_tok (P : PS h₀ h p tb ls fs s) (t : Tok) : PS h₀ (h.push (tkC t)) p tb ls fs s ∧ QP p fs fs h (h.push (tkC t)) ∧ (h.push (tkC t)).get h.next = some (tkC t) ∧ h.next < (h.push (tkC t)).next ∧ h.next ≠ p ∧ ∀ a, fs.ad = some a → h.next ≠ a.id :=
  ⟨P.push ((Ext.refl h).push _), QP.of ((Ext.refl h).push _), by rw [push_get, if_pos rfl], by rw [push_next]; omega, by have := P.plt; omega, fun a ha => by have := P.lts.2 a ha; omega⟩
theorem pz_loop (o : Bool) (k j : Nat) (ih : ∀ (r : Rl) (a : Int) (s : St) (h : H) (ls fs : Sl) (k jj : Nat), 2 * j + 20 ≤ k → j ≤ jj → PS h₀ h p tb ls fs s → RunOk h₀ h p tb fs (pz j r a s) (fun α => cps k jj p r a)) (a : Int) (s : St) (h : H) (ls fs : Sl) (jj : Nat) (hk : 2 * j + 20 ≤ k) (hj : j ≤ jj) (P : PS h₀ h p tb ls fs s) :
    RunOk h₀ h p tb fs (pz (j + 1) (.loop o) a s) (fun α => cps k (jj + 1) p (.loop o) a) := by
  obtain ⟨k, rfl⟩ : ∃ q, k = q + 2 := ⟨k - 2, by omega⟩
  have start : ∀ (α : Type) (pan : V → M α) (ret : Int → M α), cps (k + 2) (jj + 1) p (.loop o) a pan ret h = cond (isS (signO o) s) (spmakes.f (k + 2) ⟨p, 0⟩ (fun e33 => pan e33) fun r8 r9 r10 r11 =>
      new [.int .i64 0, .int .i64 0, .str [], .int .i64 0] fun t12 => st1 (t12.add 0) (.int .i64 r8) <| st1 (t12.add 1) (.int .i64 r9) <| st1 (t12.add 2) (.str r10) <| st1 (t12.add 3) (.int .i64 r11) <|
      ldI .i64 ((t12.add 1).add 0) fun x13 => cps (k + 2) (k + 2) p (oneO o) 0 pan fun r21 => ldI .i64 ((t12.add 1).add 0) fun y22 => need (decide (x13 = y22)) <| spnode.f (k + 2) ⟨p, 0⟩ (kindO o) a r21 [] x13 fun r23 => cps (k + 2) jj p (.loop o) r23 pan ret) (ret a) h := fun α pan ret => by
    show sprow.u3.l _ _ _ _ _ _ _ _ _ _ _ h = _
    rw [sprow.u3.l, sprow.u2.f, is_run P]
    cases o <;> rfl
  rw [pz]
  by_cases hs : isS (signO o) s = true
  rotate_left
  · rw [if_neg hs]
    refine ⟨h, ls, fs, fun α pan ret => ?_, P, QP.refl _ _ _⟩
    refine (start α pan ret).trans ?_
    rw [Bool.eq_false_iff.2 hs, cond_false]
  rw [if_pos hs]
  have hm := makes_run P k (by rw [isS_kind hs]; decide)
  cases hme : makesE s with
  | error e =>
    rw [hme] at hm
    obtain ⟨h', x', e'⟩ := hm
    exact fun _ => ⟨h', x', fun α pan ret => (start α pan ret).trans (by rw [hs, cond_true, e'])⟩
  | ok x =>
    rw [hme] at hm
    obtain ⟨h1, ls1, e1, P1, q1⟩ := hm
    obtain ⟨t, s1⟩ := x
    dsimp only at e1 P1
    obtain ⟨P2, q2, g2, l2, n2, f2⟩ := copy_tok P1 t
    have start2 : ∀ (α : Type) (pan : V → M α) (ret : Int → M α), cps (k + 2) (jj + 1) p (.loop o) a pan ret h = cps (k + 2) (k + 2) p (oneO o) 0 pan (fun r21 => ldI .i64 (((⟨h1.next, 0⟩ : Ad).add 1).add 0) fun y22 => need (decide (t.pos = y22)) <| spnode.f (k + 2) ⟨p, 0⟩ (kindO o) a r21 [] t.pos fun r23 => cps (k + 2) jj p (.loop o) r23 pan ret) (h1.push (tkC t)) := fun α pan ret => by
      rw [start, hs, cond_true, e1, tk_copy, tk4_pos g2]
    have hi := ih (oneO o) 0 s1 _ ls1 fs (k + 2) (k + 2) hk (by omega) P2
    show RunOk h₀ h p tb fs (bindE (pz j (oneO o) 0 s1) fun y => _) _
    cases hz : pz j (oneO o) 0 s1 with
    | error e =>
      rw [hz] at hi
      exact fun he => by
        obtain ⟨h', x', e'⟩ := hi he
        exact ⟨h', x', fun α pan ret => (start2 α pan ret).trans (e' α pan _)⟩
    | ok y =>
      rw [hz] at hi
      obtain ⟨n, s2⟩ := y
      obtain ⟨h3, ls3, fs3, e3, P3, q3⟩ := hi
      dsimp only at e3 P3
      have hb := pz_bal _ _ _ _ _ _ hz
      have hmk := makesE_ok hme
      have hlt : s2.f.length < s2.made := by
        have h1 := hb.1
        rw [hmk.2.2] at h1
        simp only [St.adv] at h1
        have := P.bal
        omega
      have g3 : h3.get h1.next = some (tkC t) := q3.tok l2 n2 f2 g2
      obtain ⟨h4, fs4, e4, P4, q4⟩ := lay_run P3 (k + 1) ⟨kindO o, a, n, [], t.pos⟩ hlt
      dsimp only at e4
      have hi2 := ih (.loop o) (layE ⟨kindO o, a, n, [], t.pos⟩ s2).1 (layE ⟨kindO o, a, n, [], t.pos⟩ s2).2 h4 ls3 fs4 (k + 2) jj hk hj P4
      have q04 := q1.trans (q2.trans (q3.trans q4))
      have start3 : ∀ (α : Type) (pan : V → M α) (ret : Int → M α), cps (k + 2) (jj + 1) p (.loop o) a pan ret h = cps (k + 2) jj p (.loop o) (layE ⟨kindO o, a, n, [], t.pos⟩ s2).1 pan ret h4 := fun α pan ret => by
        rw [start2, e3, tk4_pos g3, need_run (by simp), e4]
      show RunOk h₀ h p tb fs (pz j (.loop o) (layE ⟨kindO o, a, n, [], t.pos⟩ s2).1 (layE ⟨kindO o, a, n, [], t.pos⟩ s2).2) _
      cases hz2 : pz j (.loop o) (layE ⟨kindO o, a, n, [], t.pos⟩ s2).1 (layE ⟨kindO o, a, n, [], t.pos⟩ s2).2 with
      | error e =>
        rw [hz2] at hi2
        exact fun he => by
          obtain ⟨h', x', e'⟩ := hi2 he
          exact ⟨h', x', fun α pan ret => (start3 α pan ret).trans (e' α pan ret)⟩
      | ok y =>
        rw [hz2] at hi2
        obtain ⟨h', ls', fs', e', P', q'⟩ := hi2
        exact ⟨h', ls', fs', fun α pan ret => (start3 α pan ret).trans (e' α pan ret), P', q04.trans q'⟩
theorem pz_row (o : Bool) (k j : Nat) (ih : ∀ (r : Rl) (a : Int) (s : St) (h : H) (ls fs : Sl) (k jj : Nat), 2 * j + 20 ≤ k → j ≤ jj → PS h₀ h p tb ls fs s → RunOk h₀ h p tb fs (pz j r a s) (fun α => cps k jj p r a)) (a : Int) (s : St) (h : H) (ls fs : Sl) (jj : Nat) (hk : 2 * (j + 1) + 20 ≤ k) (P : PS h₀ h p tb ls fs s) :
    RunOk h₀ h p tb fs (pz (j + 1) (.row o) a s) (fun α => cps k jj p (.row o) a) := by
  obtain ⟨k, rfl⟩ : ∃ q, k = q + 2 := ⟨k - 2, by omega⟩
  have start : ∀ (α : Type) (pan : V → M α) (ret : Int → M α), cps (k + 2) jj p (.row o) a pan ret h = cps k k p (oneO o) 0 pan (fun n => cps k k p (.loop o) n pan ret) h := fun α pan ret => by
    cases o <;> rfl
  rw [pz]
  have hi := ih (oneO o) 0 s h ls fs k k (by omega) (by omega) P
  cases hz : pz j (oneO o) 0 s with
  | error e =>
    rw [hz] at hi
    exact fun he => by
      obtain ⟨h', x', e'⟩ := hi he
      exact ⟨h', x', fun α pan ret => (start α pan ret).trans (e' α pan _)⟩
  | ok y =>
    rw [hz] at hi
    obtain ⟨h1, ls1, fs1, e1, P1, q1⟩ := hi
    have hi2 := ih (.loop o) y.1 y.2 h1 ls1 fs1 k k (by omega) (by omega) P1
    show RunOk h₀ h p tb fs (pz j (.loop o) y.1 y.2) _
    cases hz2 : pz j (.loop o) y.1 y.2 with
    | error e =>
      rw [hz2] at hi2
      exact fun he => by
        obtain ⟨h', x', e'⟩ := hi2 he
        exact ⟨h', x', fun α pan ret => (start α pan ret).trans ((e1 α pan _).trans (e' α pan ret))⟩
    | ok y2 =>
      rw [hz2] at hi2
      obtain ⟨h', ls', fs', e', P', q'⟩ := hi2
      exact ⟨h', ls', fs', fun α pan ret => (start α pan ret).trans ((e1 α pan _).trans (e' α pan ret)), P', q1.trans q'⟩
end Go.Ab.S6
namespace Go.Ab.S6
set_option linter.unusedVariables false
set_option linter.unusedSimpArgs false
variable {α : Type} {h h₀ : H} {p tb : Nat} {ls fs : Sl} {s : St}
theorem RunOk.of {x : Except Er (Int × St)} {C C' : ∀ α : Type, (V → M α) → (Int → M α) → M α} {h1 : H} {fs1 : Sl} (r : RunOk h₀ h1 p tb fs1 x C') (q : QP p fs fs1 h h1) (e : ∀ (α : Type) (pan : V → M α) (ret : Int → M α), C α pan ret h = C' α pan ret h1) : RunOk h₀ h p tb fs x C := by
  unfold RunOk at r ⊢
  cases x with
  | error e' =>
    exact fun he => by
      obtain ⟨h', x', e''⟩ := r he
      exact ⟨h', x', fun α pan ret => (e α pan ret).trans (e'' α pan ret)⟩
  | ok y =>
    obtain ⟨h', ls', fs', e'', P', q'⟩ := r
    exact ⟨h', ls', fs', fun α pan ret => (e α pan ret).trans (e'' α pan ret), P', q.trans q'⟩
theorem RunOk.err {e : Er} {C : ∀ α : Type, (V → M α) → (Int → M α) → M α} {h' : H} (x : Ext h₀ h') (c : ∀ (α : Type) (pan : V → M α) (ret : Int → M α), C α pan ret h = pan (thrown e) h') : RunOk h₀ h p tb fs (.error e) C := fun _ => ⟨h', x, c⟩
theorem RunOk.lay (P : PS h₀ h p tb ls fs s) (k : Nat) (n : Nd) (hlt : s.f.length < s.made) : RunOk h₀ h p tb fs (.ok (layE n s)) (fun α pan ret => spnode.f (k + 1) ⟨p, 0⟩ n.kind n.a n.b n.name n.pos ret) := by
  obtain ⟨h', fs', e', P', q'⟩ := lay_run P k n hlt
  exact ⟨h', ls, fs', fun α pan ret => e' α ret, P', q'⟩
theorem RunOk.bind {x : Except Er (Int × St)} {F : Int × St → Except Er (Int × St)} {C C' : ∀ α : Type, (V → M α) → (Int → M α) → M α} {G : ∀ α : Type, (V → M α) → (Int → M α) → Int → M α} (r : RunOk h₀ h p tb fs x C')
    (e : ∀ (α : Type) (pan : V → M α) (ret : Int → M α), C α pan ret h = C' α pan (G α pan ret) h) (on : ∀ (y : Int × St) (h1 : H) (ls1 fs1 : Sl), x = .ok y → PS h₀ h1 p tb ls1 fs1 y.2 → QP p fs fs1 h h1 → RunOk h₀ h1 p tb fs1 (F y) (fun α pan ret => G α pan ret y.1)) : RunOk h₀ h p tb fs (bindE x F) C := by
  cases x with
  | error e' =>
    exact fun he => by
      obtain ⟨h', x', e''⟩ := r he
      exact ⟨h', x', fun α pan ret => (e α pan ret).trans (e'' α pan _)⟩
  | ok y =>
    obtain ⟨h1, ls1, fs1, e1, P1, q1⟩ := r
    exact RunOk.of (on y h1 ls1 fs1 rfl P1 q1) q1 fun α pan ret => (e α pan ret).trans (e1 α pan _)
theorem RunOk.makes (P : PS h₀ h p tb ls fs s) (k : Nat) (hk : s.hd.kind ≠ 0) {F : Tok × St → Except Er (Int × St)} {C : ∀ α : Type, (V → M α) → (Int → M α) → M α} {G : ∀ α : Type, (V → M α) → (Int → M α) → Ad → M α}
    (e : ∀ (α : Type) (pan : V → M α) (ret : Int → M α), C α pan ret h = spmakes.f (k + 2) ⟨p, 0⟩ (fun e => pan e) (fun r4 r5 r6 r7 => new [.int .i64 0, .int .i64 0, .str [], .int .i64 0] fun t8 => st1 (t8.add 0) (.int .i64 r4) <| st1 (t8.add 1) (.int .i64 r5) <| st1 (t8.add 2) (.str r6) <| st1 (t8.add 3) (.int .i64 r7) <| G α pan ret t8) h)
    (on : ∀ (t : Tok) (s1 : St) (h1 : H) (ls1 : Sl) (q : Nat), t = s.hd → s1 = { s.adv with made := s.made + 1 } → PS h₀ h1 p tb ls1 fs s1 → h1.get q = some (tkC t) → q < h1.next → q ≠ p → (∀ a, fs.ad = some a → q ≠ a.id) → RunOk h₀ h1 p tb fs (F (t, s1)) (fun α pan ret => G α pan ret ⟨q, 0⟩)) : RunOk h₀ h p tb fs (bindE (makesE s) F) C := by
  have hm := makes_run P k hk
  cases hme : makesE s with
  | error e' =>
    rw [hme] at hm
    obtain ⟨h', x', e''⟩ := hm
    exact RunOk.err x' fun α pan ret => (e α pan ret).trans (e'' α _ _)
  | ok x =>
    rw [hme] at hm
    obtain ⟨t, s1⟩ := x
    obtain ⟨h1, ls1, e1, P1, q1⟩ := hm
    dsimp only at e1 P1
    obtain ⟨_, ht, hs1⟩ := makesE_ok hme
    obtain ⟨P2, q2, g2, l2, n2, f2⟩ := copy_tok P1 t
    refine RunOk.of (on t s1 _ ls1 h1.next ht hs1 P2 g2 l2 n2 f2) (q1.trans q2) fun α pan ret => ?_
    rw [e, e1, tk_copy]
theorem pz_un (k j : Nat) (ih : ∀ (r : Rl) (a : Int) (s : St) (h : H) (ls fs : Sl) (k jj : Nat), 2 * j + 20 ≤ k → j ≤ jj → PS h₀ h p tb ls fs s → RunOk h₀ h p tb fs (pz j r a s) (fun α => cps k jj p r a)) (a : Int) (s : St) (h : H) (ls fs : Sl) (jj : Nat) (hk : 2 * (j + 1) + 20 ≤ k) (P : PS h₀ h p tb ls fs s) :
    RunOk h₀ h p tb fs (pz (j + 1) .un a s) (fun α => cps k jj p .un a) := by
  obtain ⟨k, rfl⟩ : ∃ q, k = q + 4 := ⟨k - 4, by omega⟩
  have ihu := fun (s : St) (h : H) (ls fs : Sl) (P : PS h₀ h p tb ls fs s) => ih .un 0 s h ls fs (k + 3) (k + 3) (by omega) (by omega) P
  have ihf := fun (s : St) (h : H) (ls fs : Sl) (P : PS h₀ h p tb ls fs s) => ih (.row true) 0 s h ls fs (k + 3) (k + 3) (by omega) (by omega) P
  have ihw := fun (s : St) (h : H) (ls fs : Sl) (P : PS h₀ h p tb ls fs s) => ih (.row true) 0 s h ls fs (k + 2) (k + 2) (by omega) (by omega) P
  have hb := P.bal
  -- the room for a node, behind what was made
  have room : ∀ {s1 s2 : St}, s1 = { s.adv with made := s.made + 1 } → Bal s1 s2 → s2.f.length < s2.made := by
    rintro s1 s2 rfl hB
    have := hB.1
    simp only [St.adv] at this
    omega
  rw [pz]
  by_cases c1 : isS [126] s = true
  · rw [if_pos c1]
    refine RunOk.makes P (k + 1) (by rw [isS_kind c1]; decide) (G := fun α pan ret t8 => ldI .i64 ((t8.add 1).add 0) fun x9 => spunary.f (k + 3) ⟨p, 0⟩ (fun e => pan e) fun r10 => ldI .i64 ((t8.add 1).add 0) fun y11 => need (decide (x9 = y11)) <| spnode.f (k + 3) ⟨p, 0⟩ 5 r10 0 [] x9 fun r12 => ret r12) (fun α pan ret => ?_) ?_
    · show spunary.f (k + 4) ⟨p, 0⟩ pan ret h = _
      rw [spunary.f, spunary.u18.f, spunary.u1.f, spunary.u17.f, spunary.u15.f, spunary.u14.f, spunary.u2.f, is_run P, spunary.u13.f, c1, cond_true, spunary.u3.f]
    · intro t s1 h1 ls1 q ht hs1 P1 g1 l1 n1 f1
      refine RunOk.bind (ihu s1 h1 ls1 fs P1) (G := fun α pan ret r10 => ldI .i64 (((⟨q, 0⟩ : Ad).add 1).add 0) fun y11 => need (decide (t.pos = y11)) <| spnode.f (k + 3) ⟨p, 0⟩ 5 r10 0 [] t.pos fun r12 => ret r12) (fun α pan ret => ?_) ?_
      · rw [tk4_pos g1]; rfl
      · intro y h2 ls2 fs2 hy P2 q2
        have g2 := q2.tok l1 n1 f1 g1
        refine RunOk.of (RunOk.lay P2 (k + 2) ⟨5, y.1, 0, [], t.pos⟩ (room hs1 (pz_bal _ _ _ _ _ _ hy))) (QP.refl _ _ _) fun α pan ret => ?_
        rw [tk4_pos g2, need_run (by simp)]
  rw [if_neg c1]
  have d1 := Bool.eq_false_iff.2 c1
  -- the two steps
  have steps : ∀ (kd : Int) (shut : List UInt8), s.hd.kind = 5 → ∀ (C : ∀ α : Type, (V → M α) → (Int → M α) → M α), (∀ (α : Type) (pan : V → M α) (ret : Int → M α), C α pan ret h = spmakes.f (k + 3) ⟨p, 0⟩ (fun e => pan e) (fun r4 r5 r6 r7 => new [.int .i64 0, .int .i64 0, .str [], .int .i64 0] fun t8 => st1 (t8.add 0) (.int .i64 r4) <| st1 (t8.add 1) (.int .i64 r5) <| st1 (t8.add 2) (.str r6) <| st1 (t8.add 3) (.int .i64 r7) <|
      spstep.f (k + 3) ⟨p, 0⟩ shut (fun e => pan e) fun r21 => ldI .i64 ((t8.add 1).add 0) fun x22 => spunary.f (k + 3) ⟨p, 0⟩ (fun e => pan e) fun r23 => ldI .i64 ((t8.add 1).add 0) fun y24 => need (decide (x22 = y24)) <| spnode.f (k + 3) ⟨p, 0⟩ kd r23 0 r21 x22 fun r25 => ret r25) h) →
      RunOk h₀ h p tb fs (bindE (makesE s) fun x => bindE (stepE shut x.2) fun z => bindE (pz j .un 0 z.2) fun y => .ok (layE ⟨kd, y.1, 0, z.1, x.1.pos⟩ y.2)) C := by
    intro kd shut hs C hC
    refine RunOk.makes P (k + 1) (by rw [hs]; decide) (G := fun α pan ret t8 => spstep.f (k + 3) ⟨p, 0⟩ shut (fun e => pan e) fun r21 => ldI .i64 ((t8.add 1).add 0) fun x22 => spunary.f (k + 3) ⟨p, 0⟩ (fun e => pan e) fun r23 => ldI .i64 ((t8.add 1).add 0) fun y24 => need (decide (x22 = y24)) <| spnode.f (k + 3) ⟨p, 0⟩ kd r23 0 r21 x22 fun r25 => ret r25) hC ?_
    intro t s1 h1 ls1 q ht hs1 P1 g1 l1 n1 f1
    have hst := step_run P1 k shut
    dsimp only
    cases hse : stepE shut s1 with
    | error e =>
      rw [hse] at hst
      obtain ⟨h', x', e'⟩ := hst
      exact RunOk.err x' fun α pan ret => e' α _ _
    | ok z =>
      rw [hse] at hst
      obtain ⟨h2, ls2, e2, P2, q2⟩ := hst
      have g2 := q2.tok l1 n1 f1 g1
      have l2 := Nat.lt_of_lt_of_le l1 q2.nx
      obtain ⟨w1, w2, w3, w4⟩ := stepE_ok hse
      have hbal : Bal s1 z.2 := by
        rw [w4]
        have k1 : s1.hd.kind ≠ 0 := by
          rcases w1 with w1 | w1
          · rw [isS_kind w1]; decide
          · rw [w1.1]; decide
        exact (Bal.adv s1 k1).trans (Bal.adv _ (by rw [isS_kind w3]; decide))
      refine RunOk.of (h1 := h2) (C' := fun α pan ret => spunary.f (k + 3) ⟨p, 0⟩ (fun e => pan e) fun r23 => ldI .i64 (((⟨q, 0⟩ : Ad).add 1).add 0) fun y24 => need (decide (t.pos = y24)) <| spnode.f (k + 3) ⟨p, 0⟩ kd r23 0 z.1 t.pos fun r25 => ret r25) ?_ q2 (fun α pan ret => by rw [e2, tk4_pos g2])
      refine RunOk.bind (ihu z.2 h2 ls2 fs P2) (G := fun α pan ret r23 => ldI .i64 (((⟨q, 0⟩ : Ad).add 1).add 0) fun y24 => need (decide (t.pos = y24)) <| spnode.f (k + 3) ⟨p, 0⟩ kd r23 0 z.1 t.pos fun r25 => ret r25) (fun α pan ret => rfl) ?_
      intro y h3 ls3 fs3 hy P3 q3
      have g3 := q3.tok l2 n1 f1 g2
      have hB := pz_bal _ _ _ _ _ _ hy
      have hB' : Bal s1 y.2 := hbal.trans hB
      refine RunOk.of (RunOk.lay P3 (k + 2) ⟨kd, y.1, 0, z.1, t.pos⟩ (room hs1 hB')) (QP.refl _ _ _) fun α pan ret => ?_
      rw [tk4_pos g3, need_run (by simp)]
  by_cases c2 : isS [60] s = true
  · rw [if_pos c2]
    refine steps 8 [62] (isS_kind c2) _ fun α pan ret => ?_
    show spunary.f (k + 4) ⟨p, 0⟩ pan ret h = _
    rw [spunary.f, spunary.u18.f, spunary.u1.f, spunary.u17.f, spunary.u15.f, spunary.u14.f, spunary.u2.f, is_run P, spunary.u13.f, d1, cond_false, spunary.u12.f, spunary.u4.f, is_run P, spunary.u11.f, c2, cond_true, spunary.u5.f]
  rw [if_neg c2]
  have d2 := Bool.eq_false_iff.2 c2
  by_cases c3 : isS [91] s = true
  · rw [if_pos c3]
    refine steps 9 [93] (isS_kind c3) _ fun α pan ret => ?_
    show spunary.f (k + 4) ⟨p, 0⟩ pan ret h = _
    rw [spunary.f, spunary.u18.f, spunary.u1.f, spunary.u17.f, spunary.u15.f, spunary.u14.f, spunary.u2.f, is_run P, spunary.u13.f, d1, cond_false, spunary.u12.f, spunary.u4.f, is_run P, spunary.u11.f, d2, cond_false, spunary.u10.f, spunary.u6.f, is_run P, spunary.u9.f, c3, cond_true, spunary.u7.f]
  rw [if_neg c3]
  have d3 := Bool.eq_false_iff.2 c3
  clear steps
  by_cases c4 : isS [40] s = true
  · rw [if_pos c4]
    obtain ⟨h1, ls1, e1, P1, q1⟩ := next_run P (k + 2) (by rw [isS_kind c4]; decide)
    refine RunOk.of (h1 := h1) (C' := fun α pan ret => spformula.f (k + 3) ⟨p, 0⟩ (fun e => pan e) fun r48 => spneed.f (k + 3) ⟨p, 0⟩ [41] (fun e => pan e) (ret r48)) ?_ q1 (fun α pan ret => by
      show spunary.f (k + 4) ⟨p, 0⟩ pan ret h = _
      rw [spunary.f, spunary.u18.f, spunary.u1.f, spunary.u17.f, spunary.u15.f, spunary.u14.f, spunary.u2.f, is_run P, spunary.u13.f, d1, cond_false, spunary.u12.f, spunary.u4.f, is_run P, spunary.u11.f, d2, cond_false, spunary.u10.f, spunary.u6.f, is_run P, spunary.u9.f, d3, cond_false, spunary.u8.f, is_run P, c4, cond_true, e1])
    refine RunOk.bind (ihf s.adv h1 ls1 fs P1) (G := fun α pan ret r48 => spneed.f (k + 3) ⟨p, 0⟩ [41] (fun e => pan e) (ret r48)) (fun α pan ret => rfl) ?_
    intro y h2 ls2 fs2 hy P2 q2
    have hn := need_run' P2 (k + 1) [41]
    cases hne : needE [41] y.2 with
    | error e =>
      rw [hne] at hn
      exact RunOk.err P2.ext fun α pan ret => hn α _ _
    | ok s' =>
      rw [hne] at hn
      obtain ⟨h3, ls3, e3, P3, q3⟩ := hn
      exact ⟨h3, ls3, fs2, fun α pan ret => e3 α _ _, P3, q3⟩
  rw [if_neg c4]
  have d4 := Bool.eq_false_iff.2 c4
  have start : ∀ (α : Type) (pan : V → M α) (ret : Int → M α), cps (k + 4) jj p .un a pan ret h = _ := fun α pan ret => by
    rw [show cps (k + 4) jj p .un a pan ret = spunary.f (k + 4) ⟨p, 0⟩ pan ret from rfl, spunary.f, spunary.u18.f, spunary.u1.f, spunary.u17.f, spunary.u15.f, spunary.u14.f, spunary.u2.f, is_run P, spunary.u13.f, d1, cond_false, spunary.u12.f, spunary.u4.f, is_run P, spunary.u11.f, d2, cond_false, spunary.u10.f, spunary.u6.f, is_run P, spunary.u9.f, d3, cond_false, spunary.u8.f, is_run P, d4, cond_false, p_l P, tk_kind P.toks (x := 0) (i := 0) rfl P.hd]
  by_cases c5 : s.hd.kind = 3
  · rw [if_pos c5]
    refine RunOk.makes P (k + 1) (by rw [c5]; decide) (G := fun α pan ret t58 => ldStr ((t58.add 2).add 0) fun x59 => ldI .i64 ((t58.add 1).add 0) fun x60 => spnode.f (k + 3) ⟨p, 0⟩ 4 0 0 x59 x60 fun r61 => ret r61) (fun α pan ret => (start α pan ret).trans (by rw [dT c5, cond_true])) ?_
    intro t s1 h1 ls1 q ht hs1 P1 g1 l1 n1 f1
    refine RunOk.of (RunOk.lay P1 (k + 2) ⟨4, 0, 0, t.text, t.pos⟩ (room hs1 (Bal.refl _))) (QP.refl _ _ _) fun α pan ret => ?_
    rw [tk4_text g1, tk4_pos g1]
  rw [if_neg c5]
  by_cases c6 : s.hd.kind = 2
  rotate_left
  · rw [if_neg c6]
    refine RunOk.err P.ext fun α pan ret => (start α pan ret).trans ?_
    rw [dF c5, cond_false, p_l P, tk_kind P.toks (x := 0) (i := 0) rfl P.hd, dF c6, cond_false, spunary.u16.f, wrong_run P]
  rw [if_pos c6]
  refine RunOk.makes P k (by rw [c6]; decide) (G := fun α pan ret t7 => ldStr ((t7.add 2).add 0) fun x8 => cond (decide (x8 = [116, 116])) (ldI .i64 ((t7.add 1).add 0) fun x9 => spnode.f (k + 2) ⟨p, 0⟩ 1 0 0 [] x9 fun r10 => ret r10) <|
      cond (decide (x8 = [102, 102])) (ldI .i64 ((t7.add 1).add 0) fun x11 => spnode.f (k + 2) ⟨p, 0⟩ 2 0 0 [] x11 fun r12 => ret r12) <|
      cond (decide (x8 = [109, 117])) (spword.u4.f (k + 2) (fun z0 z1 z2 => spformula.f (k + 2) z0 z1 z2) ⟨p, 0⟩ t7 10 ret pan) <| cond (decide (x8 = [110, 117])) (spword.u4.f (k + 2) (fun z0 z1 z2 => spformula.f (k + 2) z0 z1 z2) ⟨p, 0⟩ t7 11 ret pan) <|
      ldStr ((t7.add 2).add 0) fun x13 => ldI .i64 ((t7.add 1).add 0) fun x14 => spnode.f (k + 2) ⟨p, 0⟩ 3 0 0 x13 x14 fun r15 => ret r15) (fun α pan ret => (start α pan ret).trans (by
      rw [dF c5, cond_false, p_l P, tk_kind P.toks (x := 0) (i := 0) rfl P.hd, dT c6, cond_true, spword.f, spword.u5.f, spword.u1.f])) ?_
  intro t s1 h1 ls1 q ht hs1 P1 g1 l1 n1 f1
  have lay0 := fun (n : Nd) => RunOk.lay P1 (k + 1) n (room hs1 (Bal.refl _))
  dsimp only
  by_cases e1 : t.text = [116, 116]
  · rw [if_pos e1]
    refine RunOk.of (lay0 ⟨1, 0, 0, [], t.pos⟩) (QP.refl _ _ _) fun α pan ret => ?_
    rw [tk4_text g1, dT e1, cond_true, tk4_pos g1]
  rw [if_neg e1]
  by_cases e2 : t.text = [102, 102]
  · rw [if_pos e2]
    refine RunOk.of (lay0 ⟨2, 0, 0, [], t.pos⟩) (QP.refl _ _ _) fun α pan ret => ?_
    rw [tk4_text g1, dF e1, cond_false, dT e2, cond_true, tk4_pos g1]
  rw [if_neg e2]
  by_cases e3 : t.text = [109, 117] ∨ t.text = [110, 117]
  rotate_left
  · rw [if_neg e3]
    refine RunOk.of (lay0 ⟨3, 0, 0, t.text, t.pos⟩) (QP.refl _ _ _) fun α pan ret => ?_
    rw [tk4_text g1, dF e1, cond_false, dF e2, cond_false, dF (fun h => e3 (.inl h)), cond_false, dF (fun h => e3 (.inr h)), cond_false, tk4_text g1, tk4_pos g1]
  rw [if_pos e3]
  -- a fixpoint
  generalize hkd : (if t.text = [109, 117] then (10 : Int) else 11) = kd
  have start2 : RunOk h₀ h1 p tb fs (if s1.hd.kind = 3 then bindE (needE [46] s1.adv) fun z => bindE (pz j (.row true) 0 z) fun y => .ok (layE ⟨kd, y.1, 0, s1.hd.text, t.pos⟩ y.2) else .error (wrongE s1)) (fun α pan ret => spword.u4.f (k + 2) (fun z0 z1 z2 => spformula.f (k + 2) z0 z1 z2) ⟨p, 0⟩ ⟨q, 0⟩ kd ret pan) := by
    by_cases h3 : s1.hd.kind = 3
    rotate_left
    · rw [if_neg h3]
      refine RunOk.err P1.ext fun α pan ret => ?_
      rw [spword.u4.f, spword.u2.f, p_l P1, tk_kind P1.toks (x := 0) (i := 0) rfl P1.hd, dF h3, Bool.not_false, cond_true, wrong_run P1]
    rw [if_pos h3]
    obtain ⟨h2, ls2, e2', P2, q2⟩ := next_run P1 (k + 1) (by rw [h3]; decide)
    have g2 := q2.tok l1 n1 f1 g1
    have l2 := Nat.lt_of_lt_of_le l1 q2.nx
    have hn := need_run' P2 k [46]
    refine RunOk.of (h1 := h2) (C' := fun α pan ret => spneed.f (k + 2) ⟨p, 0⟩ [46] (fun e => pan e) (ldI .i64 (((⟨q, 0⟩ : Ad).add 1).add 0) fun x9 => spformula.f (k + 2) ⟨p, 0⟩ (fun e => pan e) fun r10 => ldI .i64 (((⟨q, 0⟩ : Ad).add 1).add 0) fun y11 => need (decide (x9 = y11)) <| spnode.f (k + 2) ⟨p, 0⟩ kd r10 0 s1.hd.text x9 fun r12 => ret r12)) ?_ q2 (fun α pan ret => by
      rw [spword.u4.f, spword.u2.f, p_l P1, tk_kind P1.toks (x := 0) (i := 0) rfl P1.hd, dT h3, Bool.not_true, cond_false, spword.u3.f, e2'])
    cases hne : needE [46] s1.adv with
    | error e =>
      rw [hne] at hn
      exact RunOk.err P2.ext fun α pan ret => hn α _ _
    | ok s' =>
      rw [hne] at hn
      obtain ⟨h3', ls3, e3', P3, q3⟩ := hn
      have g3 := q3.tok l2 n1 f1 g2
      have l3 := Nat.lt_of_lt_of_le l2 q3.nx
      obtain ⟨w1, w2⟩ := needE_ok hne
      have hbal : Bal s1 s' := by
        rw [w2]
        exact (Bal.adv s1 (by rw [h3]; decide)).trans (Bal.adv _ (by rw [isS_kind w1]; decide))
      refine RunOk.of (h1 := h3') (C' := fun α pan ret => spformula.f (k + 2) ⟨p, 0⟩ (fun e => pan e) fun r10 => ldI .i64 (((⟨q, 0⟩ : Ad).add 1).add 0) fun y11 => need (decide (t.pos = y11)) <| spnode.f (k + 2) ⟨p, 0⟩ kd r10 0 s1.hd.text t.pos fun r12 => ret r12) ?_ q3 (fun α pan ret => by rw [e3', tk4_pos g3])
      refine RunOk.bind (ihw s' h3' ls3 fs P3) (G := fun α pan ret r10 => ldI .i64 (((⟨q, 0⟩ : Ad).add 1).add 0) fun y11 => need (decide (t.pos = y11)) <| spnode.f (k + 2) ⟨p, 0⟩ kd r10 0 s1.hd.text t.pos fun r12 => ret r12) (fun α pan ret => rfl) ?_
      intro y h4 ls4 fs4 hy P4 q4
      have g4 := q4.tok l3 n1 f1 g3
      have hB := pz_bal _ _ _ _ _ _ hy
      have hB' : Bal s1 y.2 := hbal.trans hB
      refine RunOk.of (RunOk.lay P4 (k + 1) ⟨kd, y.1, 0, s1.hd.text, t.pos⟩ (room hs1 hB')) (QP.refl _ _ _) fun α pan ret => ?_
      rw [tk4_pos g4, need_run (by simp)]
  refine RunOk.of start2 (QP.refl _ _ _) fun α pan ret => ?_
  by_cases e4 : t.text = [109, 117]
  · rw [if_pos e4] at hkd
    rw [tk4_text g1, dF e1, cond_false, dF e2, cond_false, dT e4, cond_true, hkd]
  · rw [if_neg e4] at hkd
    rw [tk4_text g1, dF e1, cond_false, dF e2, cond_false, dF e4, cond_false, dT (e3.resolve_left e4), cond_true, hkd]
theorem pz_run : ∀ (j : Nat) (r : Rl) (a : Int) (s : St) (h : H) (ls fs : Sl) (k jj : Nat), 2 * j + 20 ≤ k → j ≤ jj → PS h₀ h p tb ls fs s → RunOk h₀ h p tb fs (pz j r a s) (fun α => cps k jj p r a) := by
  intro j
  induction j with
  | zero => intro r a s h ls fs k jj hk hj P; exact fun h => absurd rfl h
  | succ j ih =>
    intro r a s h ls fs k jj hk hj P
    cases r with
    | un => exact pz_un k j ih a s h ls fs jj hk P
    | row o => exact pz_row o k j ih a s h ls fs jj hk P
    | loop o =>
      obtain ⟨jj, rfl⟩ : ∃ q, jj = q + 1 := ⟨jj - 1, by omega⟩
      exact pz_loop o k j ih a s h ls fs jj (by omega) (by omega) P
end Go.Ab.S6
namespace Go.Ab.S6
set_option linter.unusedVariables false
set_option linter.unusedSimpArgs false
variable {α : Type} {h : H}
def lineT (t : Tok) : Bool := decide (t.kind = 1)
theorem c2_run (k : Nat) (t : Tok) (ret : Bool → M α) : syntax_Parse_c2.f (k + 1) t.kind t.pos t.text t.num ret h = ret (lineT t) (h.push (tkC t)) := by
  rw [syntax_Parse_c2.f, syntax_Parse_c2.u1.f, new_run rfl, ldI_run (n := t.kind) (by simp only [add_mk]; rw [cell_new]; rfl)]
  rfl
theorem find_tok {h₀ : H} {s : Sl} {l : List Tok} (r : TkR h₀ s l) (hl : l.length ≤ 4611686018427387900) (k : Nat) : ∀ (j n : Nat) (h : H), n ≤ l.length → l.length - n < j → Ext h₀ h → ∃ h', Ext h₀ h' ∧ ∀ (α : Type) (kr : Int → M α) (kx : M α),
    slices_IndexFunc_Token_Token_21.u4.l (k + 1) kr kx j s (l.length : Int) (n : Int) h = (match (l.drop n).findIdx? lineT with | some i => kr ((n + i : Nat) : Int) h' | none => kx h') := by
  intro j
  induction j with
  | zero => intro n h hn hj; omega
  | succ j ih =>
    intro n h hn hj x
    by_cases hlt : n < l.length
    rotate_left
    · refine ⟨h, x, fun α kr kx => ?_⟩
      rw [slices_IndexFunc_Token_Token_21.u4.l, slices_IndexFunc_Token_Token_21.u3.f, dF (by omega : ¬ (n : Int) < (l.length : Int)), cond_false, List.drop_of_length_le (by omega)]
      rfl
    have hn' : l[n]? = some l[n] := List.getElem?_eq_getElem hlt
    rw [List.drop_eq_getElem_cons hlt, List.findIdx?_cons]
    generalize l[n] = t at hn'
    have x1 : Ext h (h.push (tkC t)) := (Ext.refl h).push _
    have start : ∀ (α : Type) (kr : Int → M α) (kx : M α), slices_IndexFunc_Token_Token_21.u4.l (k + 1) kr kx (j + 1) s (l.length : Int) (n : Int) h = cond (lineT t) (kr (n : Int)) (slices_IndexFunc_Token_Token_21.u4.l (k + 1) kr kx j s (l.length : Int) (w64 ((n : Int) + 1))) (h.push (tkC t)) := fun α kr kx => by
      rw [slices_IndexFunc_Token_Token_21.u4.l, slices_IndexFunc_Token_Token_21.u3.f, dT (by omega : (n : Int) < (l.length : Int)), cond_true, tk_all (r.ext x) rfl hn', c2_run]
    cases hlt' : lineT t with
    | true =>
      rw [hlt'] at start
      exact ⟨_, x.trans x1, start⟩
    | false =>
      rw [hlt'] at start
      obtain ⟨h', x', e'⟩ := ih (n + 1) _ (by omega) (by omega) (x.trans x1)
      refine ⟨h', x', fun α kr kx => ?_⟩
      rw [start, cond_false, w64_eq (by omega) (by omega)]
      refine (e' α kr kx).trans ?_
      cases hf : (l.drop (n + 1)).findIdx? lineT with
      | none => rfl
      | some i =>
        show kr _ h' = kr _ h'
        rw [show n + 1 + i = n + (i + 1) by omega]
theorem flat_setC (B : List Tok) (i : Nat) (x y : Tok) (j : Nat) (v : V) (hx : B[i]? = some x) (hy : y.cells = x.cells.set j v) (hj : j < 4) : (cellsL B).set (i * 4 + j) v = cellsL (B.set i y) :=
  flat_set (c := Tok.cells) Tok.len B i x y j v hx hy hj
theorem tok_st {s : Sl} {B : List Tok} (o : Own h s 4 (cellsL B)) {x : Int} {i : Nat} (t : Tok) (hx : x = (i : Int)) (hi : i < B.length) :
    ∃ h', (∀ (α : Type) (K : M α), idxSl s x 4 (fun a => st1 (a.add 0) (.int .i64 t.kind) <| st1 (a.add 1) (.int .i64 t.pos) <| st1 (a.add 2) (.str t.text) <| st1 (a.add 3) (.int .i64 t.num) K) h = K h') ∧ Own h' s 4 (cellsL (B.set i t)) ∧ h'.next = h.next ∧ ∀ i, i ≠ s.id → h'.get i = h.get i := by
  have hb : B[i]? = some B[i] := List.getElem?_eq_getElem hi
  have hll : ∀ C : List Tok, C.length = B.length → ∀ j, j < 4 → i * 4 + j < (cellsL C).length := fun C hC j hj => by rw [show (cellsL C).length = C.length * 4 from flat_len Tok.len C, hC]; omega
  obtain ⟨h1, e1, o1, n1, g1⟩ := own_st o (n := i * 4 + 0) (v := .int .i64 t.kind) rfl (hll B rfl 0 (by decide))
  rw [flat_setC B i B[i] ⟨t.kind, B[i].pos, B[i].text, B[i].num⟩ 0 _ hb rfl (by decide)] at o1
  obtain ⟨h2, e2, o2, n2, g2⟩ := own_st o1 (n := i * 4 + 1) (v := .int .i64 t.pos) rfl (hll _ (by simp) 1 (by decide))
  rw [flat_setC _ i ⟨t.kind, B[i].pos, B[i].text, B[i].num⟩ ⟨t.kind, t.pos, B[i].text, B[i].num⟩ 1 _ (by rw [List.getElem?_set_self (by omega)]) rfl (by decide), List.set_set] at o2
  obtain ⟨h3, e3, o3, n3, g3⟩ := own_st o2 (n := i * 4 + 2) (v := .str t.text) rfl (hll _ (by simp) 2 (by decide))
  rw [flat_setC _ i ⟨t.kind, t.pos, B[i].text, B[i].num⟩ ⟨t.kind, t.pos, t.text, B[i].num⟩ 2 _ (by rw [List.getElem?_set_self (by omega)]) rfl (by decide), List.set_set] at o3
  obtain ⟨h4, e4, o4, n4, g4⟩ := own_st o3 (n := i * 4 + 3) (v := .int .i64 t.num) rfl (hll _ (by simp) 3 (by decide))
  rw [flat_setC _ i ⟨t.kind, t.pos, t.text, B[i].num⟩ t 3 _ (by rw [List.getElem?_set_self (by omega)]) rfl (by decide), List.set_set] at o4
  refine ⟨h4, fun α K => ?_, o4, by omega, fun j hj => by rw [g4 j hj, g3 j hj, g2 j hj, g1 j hj]⟩
  rw [idx_run o.rd hx (by rw [tk_slen o.rd]; exact hi)]
  simp only [at_add]
  rw [e1, e2, e3, e4]
theorem del_loop {h₀ : H} {s : Sl} {l : List Tok} (hl : l.length ≤ 4611686018427387900) (h00 : h₀.next ≤ s.id) (k : Nat) : ∀ (j n w : Nat) (B : List Tok) (h : H), n ≤ l.length → l.length - n < j → w < n → B.length = l.length → B.take w = (l.take n).filter (fun t => !lineT t) → B.drop n = l.drop n → Own h s 4 (cellsL B) → Ext h₀ h →
    ∃ (w' : Nat) (B' : List Tok) (h' : H), (∀ (α : Type) (kx : Sl → Int → M α), slices_DeleteFunc_Token_Token_21.u4.l (k + 1) kx j s (w : Int) (n : Int) h = kx s (w' : Int) h') ∧ w' < l.length ∧ B'.length = l.length ∧ B'.take w' = l.filter (fun t => !lineT t) ∧ Own h' s 4 (cellsL B') ∧ Ext h₀ h' ∧ h.next ≤ h'.next := by
  intro j
  induction j with
  | zero => intro n w B h hn hj; omega
  | succ j ih =>
    intro n w B h hn hj hw hB ht hd o x
    have hsl : s.len = l.length := by rw [tk_slen o.rd, hB]
    by_cases hlt : n < l.length
    rotate_left
    · refine ⟨w, B, h, fun α kx => ?_, by omega, hB, by rw [ht, List.take_of_length_le (by omega)], o, x, Nat.le_refl _⟩
      rw [slices_DeleteFunc_Token_Token_21.u4.l, slices_DeleteFunc_Token_Token_21.u3.f, hsl, dF (by omega : ¬ (n : Int) < (l.length : Int)), cond_false]
    have hn' : l[n]? = some l[n] := List.getElem?_eq_getElem hlt
    have hBn : B[n]? = some l[n] := by
      have := congrArg (fun l : List Tok => l[0]?) hd
      simp only [List.getElem?_drop, Nat.add_zero] at this
      rw [this, hn']
    have hdn : B.drop (n + 1) = l.drop (n + 1) := by
      have := congrArg (List.drop 1) hd
      simpa [List.drop_drop] using this
    have htk : (l.take (n + 1)).filter (fun t => !lineT t) = (l.take n).filter (fun t => !lineT t) ++ (if lineT l[n] = true then [] else [l[n]]) := by
      rw [List.take_add_one, hn', List.filter_append]
      cases hq : lineT l[n] <;> simp [hq]
    generalize l[n] = t at *
    have x1 : Ext h ((h.push (tkC t)).push (tkC t)) := ((Ext.refl h).push _).push _
    have hq1 : (h.push (tkC t)).get h.next = some (tkC t) := by rw [push_get, if_pos rfl]
    have hq2 : ((h.push (tkC t)).push (tkC t)).get h.next = some (tkC t) := by rw [push_get, if_neg (by rw [push_next]; omega), push_get, if_pos rfl]
    have start : ∀ (α : Type) (kx : Sl → Int → M α), slices_DeleteFunc_Token_Token_21.u4.l (k + 1) kx (j + 1) s (w : Int) (n : Int) h = _ := fun α kx => by
      rw [slices_DeleteFunc_Token_Token_21.u4.l, slices_DeleteFunc_Token_Token_21.u3.f, hsl, dT (by omega : (n : Int) < (l.length : Int)), cond_true, tk_all o.rd rfl hBn, tk_copy, tk4_all hq1, c2_run]
    have hnx : ((h.push (tkC t)).push (tkC t)).next = h.next + 2 := rfl
    generalize (h.push (tkC t)).push (tkC t) = h2 at start x1 hq2 hnx
    cases hq : lineT t with
    | true =>
      rw [hq] at start htk
      simp only [if_true, List.append_nil] at htk
      obtain ⟨w', B', h', e', r'⟩ := ih (n + 1) w B h2 (by omega) (by omega) (by omega) hB (by rw [htk]; exact ht) hdn (o.ext x1) (x.trans x1)
      refine ⟨w', B', h', fun α kx => ?_, r'.1, r'.2.1, r'.2.2.1, r'.2.2.2.1, r'.2.2.2.2.1, by have := r'.2.2.2.2.2; omega⟩
      rw [start, Bool.not_true, cond_false, w64_eq (by omega) (by omega)]
      exact e' α kx
    | false =>
      rw [hq] at start htk
      simp only [Bool.false_eq_true, if_false] at htk
      obtain ⟨h3, e3, o3, n3, g3⟩ := tok_st (o.ext x1) (x := (w : Int)) (i := w) t rfl (by omega)
      have x3 : Ext h₀ h3 := ⟨by have := x.1; omega, fun i hi => by rw [g3 i (by omega), x1.2 i (by have := x.1; omega), x.2 i hi]⟩
      have htw : (B.set w t).take (w + 1) = (l.take (n + 1)).filter (fun t => !lineT t) := by
        rw [htk, ← ht, List.take_add_one, List.getElem?_set_self (by omega), List.take_set_of_le (Nat.le_refl _)]
        rfl
      obtain ⟨w', B', h', e', r'⟩ := ih (n + 1) (w + 1) (B.set w t) h3 (by omega) (by omega) (by omega) (by simp [hB]) htw (by rw [List.drop_set_of_lt (by omega)]; exact hdn) o3 x3
      refine ⟨w', B', h', fun α kx => ?_, r'.1, r'.2.1, r'.2.2.1, r'.2.2.2.1, r'.2.2.2.2.1, by have := r'.2.2.2.2.2; omega⟩
      rw [start, Bool.not_false, cond_true, tk4_all hq2, e3, w64_eq (by omega) (by omega), w64_eq (by omega) (by omega)]
      exact e' α kx
theorem del_run (k : Nat) {s : Sl} {l : List Tok} (h₀ h : H) (x : Ext h₀ h) (o : Own h s 4 (cellsL l)) (h00 : h₀.next ≤ s.id) (hfine : s.fine 4) (hk : l.length + 4 ≤ k) (hl : l.length ≤ 4611686018427387900) :
    ∃ h' s', (∀ (α : Type) (ret : Sl → M α), slices_DeleteFunc_Token_Token_21.f (k + 1) s ret h = ret s' h') ∧ TkR h' s' (l.filter (fun t => !lineT t)) ∧ s'.fine 4 ∧ s'.ad = s.ad ∧ Ext h₀ h' ∧ h.next ≤ h'.next := by
  obtain ⟨k, rfl⟩ : ∃ q, k = q + 2 := ⟨k - 2, by omega⟩
  have hsl : s.len = l.length := tk_slen o.rd
  obtain ⟨h1, x1, e1⟩ := find_tok o.rd hl k (k + 1) 0 h (Nat.zero_le _) (by omega) (Ext.refl h)
  rw [List.drop_zero] at e1
  have start : ∀ (α : Type) (ret : Sl → M α), slices_DeleteFunc_Token_Token_21.f (k + 3) s ret h = slices_IndexFunc_Token_Token_21.u4.l (k + 1) (fun r3 => cond (decide (r3 = (-1))) (ret s) (slices_DeleteFunc_Token_Token_21.u8.f (k + 2) s r3 ret)) (cond (decide ((-1 : Int) = (-1))) (ret s) (slices_DeleteFunc_Token_Token_21.u8.f (k + 2) s (-1) ret)) (k + 1) s (l.length : Int) ((0 : Nat) : Int) h := fun α ret => by
    rw [slices_DeleteFunc_Token_Token_21.f, slices_DeleteFunc_Token_Token_21.u9.f, slices_DeleteFunc_Token_Token_21.u1.f, slices_IndexFunc_Token_Token_21.f, slices_IndexFunc_Token_Token_21.u9.f, slices_IndexFunc_Token_Token_21.u1.f, slices_IndexFunc_Token_Token_21.u8.f, slices_IndexFunc_Token_Token_21.u6.f, slices_IndexFunc_Token_Token_21.u2.f, hsl, slices_IndexFunc_Token_Token_21.u5.f, slices_IndexFunc_Token_Token_21.u4.f, slices_IndexFunc_Token_Token_21.u7.f]
    rfl
  cases hf : l.findIdx? lineT with
  | none =>
    rw [hf] at e1
    have hnone : l.filter (fun t => !lineT t) = l := by
      rw [List.findIdx?_eq_none_iff] at hf
      exact List.filter_eq_self.2 fun t ht => by rw [hf t ht]; rfl
    refine ⟨h1, s, fun α ret => ?_, by rw [hnone]; exact o.rd.ext x1, hfine, rfl, x.trans x1, x1.1⟩
    rw [start, e1]
    rfl
  | some i =>
    rw [hf] at e1
    have hfi := hf
    rw [List.findIdx?_eq_some_iff_getElem] at hf
    obtain ⟨hi, hp, hno⟩ := hf
    have htk : (l.take (i + 1)).filter (fun t => !lineT t) = l.take i := by
      rw [List.take_add_one, List.getElem?_eq_getElem hi, List.filter_append]
      have h1 : (l.take i).filter (fun t => !lineT t) = l.take i := by
        refine List.filter_eq_self.2 fun t ht => ?_
        obtain ⟨q, hq, rfl⟩ := List.getElem_of_mem ht
        rw [List.getElem_take]
        have hqi : q < i := by simp at hq; omega
        have := hno q hqi
        simp at this
        simp [this]
      rw [h1]
      simp [hp]
    obtain ⟨w', B', h2, e2, w1, w2, w3, w4, w5, w6⟩ := del_loop (h₀ := h₀) (s := s) (l := l) hl h00 (k + 1) (k + 2) (i + 1) i l h1 (by omega) (by omega) (by omega) rfl htk.symm rfl (o.ext x1) (x.trans x1)
    obtain ⟨id, more, g1, g2, g3⟩ := w4.blk
    have hs2 : s.len = B'.length := tk_slen w4.rd
    have hcl : (cellsL B').length = B'.length * 4 := flat_len Tok.len B'
    -- the rest is cleared
    have hover : over (cellsL B' ++ more) (w' * 4) ((List.replicate (s.len - w') [V.int .i64 0, .int .i64 0, .str [], .int .i64 0]).flatten) = cellsL (B'.take w') ++ ((List.replicate (s.len - w') [V.int .i64 0, .int .i64 0, .str [], .int .i64 0]).flatten ++ more) := by
      unfold over
      have hz : ((List.replicate (s.len - w') [V.int .i64 0, .int .i64 0, .str [], .int .i64 0]).flatten).length = (s.len - w') * 4 := by simp
      rw [hz, List.take_append_of_le_length (by omega), show (cellsL B').take (w' * 4) = cellsL (B'.take w') from flat_take (c := Tok.cells) Tok.len B' w', List.drop_append, List.drop_of_length_le (by omega), List.nil_append, hcl, show w' * 4 + (s.len - w') * 4 - B'.length * 4 = 0 by omega, List.drop_zero]
    generalize hZ : (List.replicate (s.len - w') [V.int .i64 0, .int .i64 0, .str [], .int .i64 0]).flatten = Z at hover
    have hZl : Z.length = (s.len - w') * 4 := by rw [← hZ]; simp
    have hfrom : s.from w' s.cap 4 = some ⟨id, w' * 4⟩ := by
      unfold Sl.from
      rw [g1]
      have hne : s.cap ≠ w' := by have := hfine.1; omega
      cases hlo : s.loose with
      | none => dsimp only; rw [beq_ne hne, cond_false]; simp [Ad.add]
      | some e => dsimp only; simp [Ad.add]
    refine ⟨h2.put id (some (.cells (cellsL (B'.take w') ++ (Z ++ more)) true)), ⟨s.ad, w', s.cap, s.loose⟩, fun α ret => ?_, ?_, ⟨by show w' ≤ s.cap; have := hfine.1; omega, hfine.2⟩, rfl, ?_, ?_⟩
    · rw [start, e1]
      dsimp only
      rw [dF (by omega : ¬ ((0 + i : Nat) : Int) = -1), cond_false, slices_DeleteFunc_Token_Token_21.u8.f, slices_DeleteFunc_Token_Token_21.u6.f, slices_DeleteFunc_Token_Token_21.u2.f, w64_eq (by omega) (by omega), slices_DeleteFunc_Token_Token_21.u5.f, slices_DeleteFunc_Token_Token_21.u4.f]
      rw [show ((0 + i : Nat) : Int) = (i : Int) by omega, show ((i : Int) + 1) = ((i + 1 : Nat) : Int) by omega, e2, slices_DeleteFunc_Token_Token_21.u7.f, cut_from hfine rfl (by omega)]
      unfold clearSl
      dsimp only
      rw [hfrom]
      dsimp only
      rw [need_run (by rfl), hZ]
      unfold wrRow H.setRow
      dsimp only
      rw [g2]
      dsimp only
      rw [show Nat.ble (w' * 4 + Z.length) (cellsL B' ++ more).length = true from Nat.ble_eq_true_of_le (by rw [List.length_append, hZl, hcl]; omega), cond_true, hover]
      dsimp only
      rw [cut_to hfine rfl (by have := hfine.1; omega)]
    · have hg : (h2.put id (some (.cells (cellsL (B'.take w') ++ (Z ++ more)) true))).get id = some (.cells (cellsL (B'.take w') ++ (Z ++ more)) true) := put_get _ _ _
      rw [← w3]
      have hcl' : (cellsL (B'.take w')).length = w' * 4 := by rw [show (cellsL (B'.take w')).length = (B'.take w').length * 4 from flat_len Tok.len _, List.length_take, Nat.min_eq_left (by omega)]
      refine ⟨hcl', fun a ha => ?_, fun ha => by rw [g1] at ha; cases ha⟩
      rw [g1] at ha
      cases ha
      refine ⟨?_, g3⟩
      rw [row_of (a := ⟨id, 0⟩) hg (by show 0 + _ ≤ _; rw [List.length_append]; omega), List.drop_zero, List.take_left]
    · refine w5.put _ ?_
      have : s.id = id := by unfold Sl.id; rw [g1]; rfl
      omega
    · show h.next ≤ h2.next
      have := x1.1
      omega
end Go.Ab.S6
