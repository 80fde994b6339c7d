import Derived.Test.YtkfoohgkbafafaaS3s
namespace Go.Ab.S3
set_option linter.unusedVariables false
set_option linter.unusedSimpArgs false
variable {α : Type} {h : H}
/-! ### the parser's memory -/
theorem put_put (h : H) (i : Nat) (a b : Option Blk) : (h.put i a).put i b = h.put i b := by
  unfold H.put
  simp only [H.mk.injEq, true_and]
  funext j
  cases Nat.beq j i <;> rfl
abbrev tkC (t : Tok) : Blk := .cells [.int .i64 t.kind, .int .i64 t.pos, .str t.text, .int .i64 t.num] true
theorem st4_run {q : Nat} {v0 v1 v2 v3 : V} (hq : h.get q = some (.cells [v0, v1, v2, v3] true)) (t : Tok) (K : M α) :
    (st1 ((⟨q, 0⟩ : Ad).add 0) (.int .i64 t.kind) <| st1 ((⟨q, 0⟩ : Ad).add 1) (.int .i64 t.pos) <| st1 ((⟨q, 0⟩ : Ad).add 2) (.str t.text) <| st1 ((⟨q, 0⟩ : Ad).add 3) (.int .i64 t.num) K) h = K (h.put q (some (tkC t))) := by
  simp only [add_mk, Nat.zero_add]
  rw [st1_run (a := ⟨q, 0⟩) hq rfl (by simp), st1_run (a := ⟨q, 1⟩) (by rw [put_get]) rfl (by simp), put_put, st1_run (a := ⟨q, 2⟩) (by rw [put_get]) rfl (by simp), put_put, st1_run (a := ⟨q, 3⟩) (by rw [put_get]) rfl (by simp), put_put]
  rfl
theorem tk4_all {t : Tok} {q : Nat} (hq : h.get q = some (tkC t)) (K : Int → Int → List UInt8 → Int → M α) :
    (ldI .i64 ((⟨q, 0⟩ : Ad).add 0) fun y0 => ldI .i64 ((⟨q, 0⟩ : Ad).add 1) fun y1 => ldStr ((⟨q, 0⟩ : Ad).add 2) fun y2 => ldI .i64 ((⟨q, 0⟩ : Ad).add 3) fun y3 => K y0 y1 y2 y3) h = K t.kind t.pos t.text t.num h := by
  simp only [add_mk]
  rw [ldI_run (by rw [cell_of (a := ⟨q, 0 + 0⟩) hq]; rfl), ldI_run (by rw [cell_of (a := ⟨q, 0 + 1⟩) hq]; rfl), ldStr_run (by rw [cell_of (a := ⟨q, 0 + 2⟩) hq]; rfl), ldI_run (by rw [cell_of (a := ⟨q, 0 + 3⟩) hq]; rfl)]
theorem tk4_pos {t : Tok} {q : Nat} (hq : h.get q = some (tkC t)) (K : Int → M α) : ldI .i64 (((⟨q, 0⟩ : Ad).add 1).add 0) K h = K t.pos h := ldI_run (by simp only [add_mk]; rw [cell_of (a := ⟨q, 0 + 1 + 0⟩) hq]; rfl)
theorem tk4_text {t : Tok} {q : Nat} (hq : h.get q = some (tkC t)) (K : List UInt8 → M α) : ldStr (((⟨q, 0⟩ : Ad).add 2).add 0) K h = K t.text h := ldStr_run (by simp only [add_mk]; rw [cell_of (a := ⟨q, 0 + 2 + 0⟩) hq]; rfl)
/-- a token of one's own, laid down on the way -/
theorem tk_copy {z0 z1 z3 : Int} {z2 : List UInt8} (t : Tok) (K : Ad → M α) :
    new [.int .i64 z0, .int .i64 z1, .str z2, .int .i64 z3] (fun n => st1 (n.add 0) (.int .i64 t.kind) <| st1 (n.add 1) (.int .i64 t.pos) <| st1 (n.add 2) (.str t.text) <| st1 (n.add 3) (.int .i64 t.num) <| K n) h =
      K ⟨h.next, 0⟩ (h.push (tkC t)) := by
  rw [new_run rfl]
  simp only [add_mk, Nat.zero_add]
  rw [st1_new rfl (by simp), st1_new rfl (by simp), st1_new rfl (by simp), st1_new rfl (by simp)]
  rfl
theorem Tok.len (t : Tok) : t.cells.length = 4 := rfl
abbrev TkR (h : H) (s : Sl) (l : List Tok) : Prop := Rd h s 4 (cellsL l)
section
variable {s : Sl} {l : List Tok}
theorem tk_slen (r : TkR h s l) : s.len = l.length := slen (c := Tok.cells) Tok.len (by decide) r
theorem tk_cell (r : TkR h s l) {i : Nat} {n : Tok} (hi : l[i]? = some n) {j : Nat} {v : V} (hv : n.cells[j]? = some v) (hj : j < 4) : (cellsL l)[i * 4 + j]? = some v :=
  (flat_get Tok.len l i n j hi hj).trans hv
theorem tk_idx (r : TkR h s l) {x : Int} {i : Nat} {n : Tok} (hx : x = (i : Int)) (hi : l[i]? = some n) (K : Ad → M α) : idxSl s x 4 K h = K (s.at (i * 4)) h :=
  idx_run r hx (by rw [tk_slen r]; exact get_lt hi) K
theorem tk_kind (r : TkR h s l) {x : Int} {i : Nat} {n : Tok} (hx : x = (i : Int)) (hi : l[i]? = some n) (K : Int → M α) : idxSl s x 4 (fun a => ldI .i64 ((a.add 0).add 0) K) h = K n.kind h := by
  rw [tk_idx r hx hi, at_add, at_add]; exact r.ldI (tk_cell r hi (j := 0) rfl (by decide)) K
theorem tk_pos (r : TkR h s l) {x : Int} {i : Nat} {n : Tok} (hx : x = (i : Int)) (hi : l[i]? = some n) (K : Int → M α) : idxSl s x 4 (fun a => ldI .i64 ((a.add 1).add 0) K) h = K n.pos h := by
  rw [tk_idx r hx hi, at_add, at_add]; exact r.ldI (tk_cell r hi (j := 1) rfl (by decide)) K
theorem tk_text (r : TkR h s l) {x : Int} {i : Nat} {n : Tok} (hx : x = (i : Int)) (hi : l[i]? = some n) (K : List UInt8 → M α) : idxSl s x 4 (fun a => ldStr ((a.add 2).add 0) K) h = K n.text h := by
  rw [tk_idx r hx hi, at_add, at_add]; exact r.ldStr (tk_cell r hi (j := 2) rfl (by decide)) K
theorem tk_all (r : TkR h s l) {x : Int} {i : Nat} {n : Tok} (hx : x = (i : Int)) (hi : l[i]? = some n) (K : Int → Int → List UInt8 → Int → M α) :
    idxSl s x 4 (fun a => ldI .i64 (a.add 0) fun x0 => ldI .i64 (a.add 1) fun x1 => ldStr (a.add 2) fun x2 => ldI .i64 (a.add 3) fun x3 => K x0 x1 x2 x3) h = K n.kind n.pos n.text n.num h := by
  rw [tk_idx r hx hi]
  simp only [at_add]
  rw [r.ldI (tk_cell r hi (j := 0) rfl (by decide)), r.ldI (tk_cell r hi (j := 1) rfl (by decide)), r.ldStr (tk_cell r hi (j := 2) rfl (by decide)), r.ldI (tk_cell r hi (j := 3) rfl (by decide))]
end
theorem from_id {s : Sl} {n m size : Nat} {b : Ad} (hb : s.from n m size = some b) : ∃ a, s.ad = some a ∧ a.id = b.id := by
  unfold Sl.from at hb
  cases hls : s.ad with
  | none =>
    rw [hls] at hb
    cases hlo : s.loose with
    | none => rw [hlo] at hb; dsimp only at hb; cases hq : Nat.beq m n <;> simp [hq] at hb
    | some e => rw [hlo] at hb; cases hb
  | some a =>
    rw [hls] at hb
    refine ⟨a, rfl, ?_⟩
    cases hlo : s.loose with
    | none =>
      rw [hlo] at hb
      dsimp only at hb
      cases hq : Nat.beq m n with
      | true => rw [hq, cond_true] at hb; cases hb; rfl
      | false => rw [hq, cond_false] at hb; cases hb; rfl
    | some e => rw [hlo] at hb; cases hb; rfl
structure PS (h₀ h : H) (p tb : Nat) (ls fs : Sl) (s : St) : Prop where
  ext : Ext h₀ h
  p0 : h₀.next ≤ p
  plt : p < h.next
  blk : h.get p = some (.cells [.slice ls, .int .i64 (s.made : Int), .slice fs] true)
  toks : TkR h ls s.l
  fine : ls.fine 4
  nodes : App h fs 5 (cN s.f)
  low : Owned h₀ fs
  tok : ∀ a, ls.ad = some a → a.id = tb
  tp : tb ≠ p
  tl : tb < h.next
  fp : ∀ a, fs.ad = some a → a.id ≠ p ∧ a.id ≠ tb
  ends : Ends s.l
  bal : s.f.length ≤ s.made
  m60 : s.made ≤ 60
/-- what a step lets be -/
structure QP (p : Nat) (fs fs' : Sl) (h h' : H) : Prop where
  nx : h.next ≤ h'.next
  keep : ∀ i, i < h.next → i ≠ p → (∀ a, fs.ad = some a → i ≠ a.id) → h'.get i = h.get i
  nf : ∀ a, fs'.ad = some a → h.next ≤ a.id ∨ fs'.ad = fs.ad
theorem QP.refl (p : Nat) (fs : Sl) (h : H) : QP p fs fs h h := ⟨Nat.le_refl _, fun _ _ _ _ => rfl, fun _ _ => .inr rfl⟩
theorem QP.of {p : Nat} {fs : Sl} {h h' : H} (x : Ext h h') : QP p fs fs h h' := ⟨x.1, fun i hi _ _ => x.2 i hi, fun _ _ => .inr rfl⟩
theorem QP.trans {p : Nat} {a b c : Sl} {h h' h'' : H} (x : QP p a b h h') (y : QP p b c h' h'') : QP p a c h h'' := by
  refine ⟨Nat.le_trans x.nx y.nx, fun i hi hp ha => ?_, fun q hq => ?_⟩
  · rw [y.keep i (Nat.lt_of_lt_of_le hi x.nx) hp (fun q hq => ?_), x.keep i hi hp ha]
    rcases x.nf q hq with h | h
    · omega
    · exact ha q (by rw [← h]; exact hq)
  · rcases y.nf q hq with h | h
    · exact .inl (Nat.le_trans x.nx h)
    · rw [h] at hq
      rcases x.nf q hq with h' | h'
      · exact .inl h'
      · exact .inr (h.trans h')
section
variable {h₀ : H} {p tb : Nat} {ls fs : Sl} {s : St}
theorem PS.push (P : PS h₀ h p tb ls fs s) {h' : H} (x : Ext h h') : PS h₀ h' p tb ls fs s :=
  ⟨P.ext.trans x, P.p0, Nat.lt_of_lt_of_le P.plt x.1, by rw [x.2 p P.plt]; exact P.blk, P.toks.ext x, P.fine, P.nodes.ext x, P.low, P.tok, P.tp, Nat.lt_of_lt_of_le P.tl x.1, P.fp, P.ends, P.bal, P.m60⟩
/-- the parser's own block is laid anew -/
theorem PS.setblk (P : PS h₀ h p tb ls fs s) {ls' : Sl} {s' : St} (hf : s'.f = s.f) (ht : TkR h ls' s'.l) (hfine : ls'.fine 4) (had : ∀ b, ls'.ad = some b → ∃ a, ls.ad = some a ∧ a.id = b.id) (he : Ends s'.l) (hb : s'.f.length ≤ s'.made) (hm : s'.made ≤ 60) :
    PS h₀ (h.put p (some (.cells [.slice ls', .int .i64 (s'.made : Int), .slice fs] true))) p tb ls' fs s' := by
  have hg : ∀ i, i ≠ p → (h.put p (some (.cells [.slice ls', .int .i64 (s'.made : Int), .slice fs] true))).get i = h.get i := fun i hi => by rw [put_get_if, if_neg hi]
  have htb : ∀ b, ls'.ad = some b → b.id = tb := fun b hb => by
    obtain ⟨a, ha, e⟩ := had b hb
    rw [← e]; exact P.tok a ha
  refine ⟨P.ext.put _ P.p0, P.p0, P.plt, by rw [put_get], ht.keep (Nat.le_refl _) fun b hb => hg _ (by rw [htb b hb]; exact P.tp), hfine, ?_, P.low, htb, P.tp, P.tl, P.fp, he, hb, hm⟩
  rw [hf]; exact P.nodes.keep (Nat.le_refl _) fun a ha => hg _ (P.fp a ha).1
theorem qp_put (b : Option Blk) : QP p fs fs h (h.put p b) := ⟨Nat.le_refl _, fun i _ hi _ => by rw [put_get_if, if_neg hi], fun _ _ => .inr rfl⟩
theorem p_l (P : PS h₀ h p tb ls fs s) (K : Sl → M α) : ldS (((⟨p, 0⟩ : Ad).add 0).add 0) K h = K ls h := ldS_run (by simp only [add_mk]; rw [cell_of P.blk]; rfl)
theorem p_made (P : PS h₀ h p tb ls fs s) (K : Int → M α) : ldI .i64 (((⟨p, 0⟩ : Ad).add 1).add 0) K h = K s.made h := ldI_run (by simp only [add_mk]; rw [cell_of P.blk]; rfl)
theorem p_f (P : PS h₀ h p tb ls fs s) (K : Sl → M α) : ldS (((⟨p, 0⟩ : Ad).add 2).add 0) K h = K fs h := ldS_run (by simp only [add_mk]; rw [cell_of P.blk]; rfl)
theorem PS.hd (P : PS h₀ h p tb ls fs s) : s.l[0]? = some s.hd := by
  obtain ⟨t, r, hl⟩ := P.ends.ne
  unfold St.hd
  rw [hl]; rfl
theorem is_run (P : PS h₀ h p tb ls fs s) (k : Nat) (sign : List UInt8) (ret : Bool → M α) : spis.f (k + 1) ⟨p, 0⟩ sign ret h = ret (isS sign s) h := by
  rw [spis.f, spis.u1.f, p_l P, tk_kind P.toks (x := 0) (i := 0) rfl P.hd]
  unfold isS
  by_cases h5 : s.hd.kind = 5
  · rw [dT h5, cond_true, p_l P, tk_text P.toks (x := 0) (i := 0) rfl P.hd, Bool.true_and]
  · rw [dF h5, cond_false, Bool.false_and]
theorem wrong_run (P : PS h₀ h p tb ls fs s) (k : Nat) (pan : V → M α) (ret : M α) : spwrong.f (k + 1) ⟨p, 0⟩ pan ret h = pan (.iface 74 (.agg [.int .i64 (wrongE s).1, .int .i64 (wrongE s).2])) h := by
  rw [spwrong.f, spwrong.u1.f, p_l P, tk_kind P.toks (x := 0) (i := 0) rfl P.hd]
  unfold wrongE
  by_cases h5 : s.hd.kind = 0
  · rw [dT h5, cond_true, p_l P, tk_pos P.toks (x := 0) (i := 0) rfl P.hd, if_pos h5]
  · rw [dF h5, cond_false, p_l P, tk_pos P.toks (x := 0) (i := 0) rfl P.hd, if_neg h5]
/-- memory that is not the parser's is laid anew -/
theorem PS.other (P : PS h₀ h p tb ls fs s) {i : Nat} (b : Blk) (hi : h₀.next ≤ i) (hp : i ≠ p) (hl : tb ≠ i) (hf : ∀ a, fs.ad = some a → a.id ≠ i) : PS h₀ (h.put i (some b)) p tb ls fs s := by
  have hg : ∀ j, j ≠ i → (h.put i (some b)).get j = h.get j := fun j hj => by rw [put_get_if, if_neg hj]
  exact ⟨P.ext.put _ hi, P.p0, P.plt, by rw [hg _ (Ne.symm hp)]; exact P.blk, P.toks.keep (Nat.le_refl _) (fun a ha => hg _ (by rw [P.tok a ha]; exact hl)), P.fine, P.nodes.keep (Nat.le_refl _) (fun a ha => hg _ (hf a ha)), P.low, P.tok, P.tp, P.tl, P.fp, P.ends, P.bal, P.m60⟩
theorem next_run (P : PS h₀ h p tb ls fs s) (k : Nat) (hk : s.hd.kind ≠ 0) :
    ∃ h' ls', (∀ (α : Type) (ret : Int → Int → List UInt8 → Int → M α), spnext.f (k + 1) ⟨p, 0⟩ ret h = ret s.hd.kind s.hd.pos s.hd.text s.hd.num h') ∧ PS h₀ h' p tb ls' fs s.adv ∧ QP p fs fs h h' := by
  have he := adv_ends P.ends hk
  obtain ⟨t, r, hl⟩ := P.ends.ne
  have hhd : s.hd = t := by unfold St.hd; rw [hl]; rfl
  have hadv : s.adv = { s with l := r } := by unfold St.adv; rw [hl]; rfl
  have hlen : ls.len = r.length + 1 := by rw [tk_slen P.toks, hl]; rfl
  -- the two copies
  have x2 : Ext h ((h.push (.cells [.int .i64 0, .int .i64 0, .str [], .int .i64 0] true)).push (tkC t)) := ((Ext.refl h).push _).push _
  have hn2 : ((h.push (.cells [.int .i64 0, .int .i64 0, .str [], .int .i64 0] true)).push (tkC t)).next = h.next + 2 := rfl
  have P1 := P.push ((Ext.refl h).push (.cells [.int .i64 0, .int .i64 0, .str [], .int .i64 0] true))
  have P2 := P.push x2
  have hz : ((h.push (.cells [.int .i64 0, .int .i64 0, .str [], .int .i64 0] true)).push (tkC t)).get h.next = some (.cells [.int .i64 0, .int .i64 0, .str [], .int .i64 0] true) := by
    rw [push_get, if_neg (by rw [push_next]; omega), push_get, if_pos rfl]
  have ht : ((h.push (.cells [.int .i64 0, .int .i64 0, .str [], .int .i64 0] true)).push (tkC t)).get (h.next + 1) = some (tkC t) := by rw [push_get, if_pos (by rw [push_next])]
  have start : ∀ (α : Type) (ret : Int → Int → List UInt8 → Int → M α), spnext.f (k + 1) ⟨p, 0⟩ ret h = _ := fun α ret => by
    rw [spnext.f, spnext.u1.f, new_run rfl, p_l P1, tk_all P1.toks (x := 0) (i := 0) (n := t) rfl (by rw [hl]; rfl), tk_copy]
  rw [show (h.push (.cells [.int .i64 0, .int .i64 0, .str [], .int .i64 0] true)).next = h.next + 1 from rfl] at start
  generalize (h.push (.cells [.int .i64 0, .int .i64 0, .str [], .int .i64 0] true)).push (tkC t) = h2 at start x2 hn2 P2 hz ht
  have rf := P2.toks.from 1 (ls.cap - 1) ls.cap ls.loose (by omega) P2.fine.1
  have hdr : (cellsL s.l).drop (1 * 4) = cellsL r := by
    rw [hl]
    exact flat_drop (c := Tok.cells) (size := 4) Tok.len (t :: r) 1
  rw [hdr] at rf
  have P3 := P2.setblk (ls' := ⟨ls.from 1 ls.cap 4, ls.len - 1, ls.cap - 1, ls.loose⟩) (s' := { s with l := r }) rfl rf ⟨by show ls.len - 1 ≤ ls.cap - 1; have := P.fine.1; omega, P.fine.2⟩ (fun b hb => from_id hb) (by rw [hadv] at he; exact he) P.bal P.m60
  have q3 : QP p fs fs h2 (h2.put p (some (.cells [.slice ⟨ls.from 1 ls.cap 4, ls.len - 1, ls.cap - 1, ls.loose⟩, .int .i64 (s.made : Int), .slice fs] true))) := qp_put _
  have hg3 : ∀ i, i ≠ p → (h2.put p (some (.cells [.slice ⟨ls.from 1 ls.cap 4, ls.len - 1, ls.cap - 1, ls.loose⟩, .int .i64 (s.made : Int), .slice fs] true))).get i = h2.get i := fun i hi => by rw [put_get_if, if_neg hi]
  have e3 : ∀ (α : Type) (K : M α), st1 (((⟨p, 0⟩ : Ad).add 0).add 0) (.slice ⟨ls.from 1 ls.cap 4, ls.len - 1, ls.cap - 1, ls.loose⟩) K h2 = K (h2.put p (some (.cells [.slice ⟨ls.from 1 ls.cap 4, ls.len - 1, ls.cap - 1, ls.loose⟩, .int .i64 (s.made : Int), .slice fs] true))) := fun α K => by
    simp only [add_mk]
    rw [st1_run (a := ⟨p, 0 + 0 + 0⟩) P2.blk rfl (by simp)]
    rfl
  have hn3 : (h2.put p (some (.cells [.slice ⟨ls.from 1 ls.cap 4, ls.len - 1, ls.cap - 1, ls.loose⟩, .int .i64 (s.made : Int), .slice fs] true))).next = h2.next := rfl
  generalize h2.put p (some (.cells [.slice ⟨ls.from 1 ls.cap 4, ls.len - 1, ls.cap - 1, ls.loose⟩, .int .i64 (s.made : Int), .slice fs] true)) = h3 at P3 q3 e3 hg3 hn3
  have hpl := P.plt
  have hz3 : h3.get h.next = some (.cells [.int .i64 0, .int .i64 0, .str [], .int .i64 0] true) := by rw [hg3 _ (by omega)]; exact hz
  have ht3 : h3.get (h.next + 1) = some (tkC t) := by rw [hg3 _ (by omega)]; exact ht
  have hfs : ∀ a, fs.ad = some a → a.id < h.next := fun a ha => (P.nodes.rd.row a ha).2
  have hls : ∀ a, ls.ad = some a → a.id < h.next := fun a ha => (P.toks.row a ha).2
  -- the answer's own copy
  have P4 := P3.other (tkC t) (i := h.next) P.ext.1 (by omega) (by have := P.tl; omega) (fun a ha => by have := hfs a ha; omega)
  refine ⟨h3.put h.next (some (tkC t)), _, fun α ret => ?_, by rw [hadv]; exact P4, ⟨by show h.next ≤ h3.next; omega, fun i hi hp _ => by rw [put_get_if, if_neg (by omega), hg3 i hp, x2.2 i hi], fun _ _ => .inr rfl⟩⟩
  · rw [start, p_l P2, cut_from P2.fine (x := 1) (n := 1) rfl (by omega), e3, tk4_all ht3, st4_run hz3]
    have hq4 : (h3.put h.next (some (tkC t))).get h.next = some (tkC t) := by rw [put_get]
    rw [tk4_all hq4, hhd]
theorem PS.lts (P : PS h₀ h p tb ls fs s) : (∀ a, ls.ad = some a → a.id < h.next) ∧ ∀ a, fs.ad = some a → a.id < h.next := ⟨fun a ha => (P.toks.row a ha).2, fun a ha => (P.nodes.rd.row a ha).2⟩
/-- a fault, as it is thrown -/
abbrev thrown (e : Er) : V := .iface 74 (.agg [.int .i64 e.1, .int .i64 e.2])
theorem makes_run (P : PS h₀ h p tb ls fs s) (k : Nat) (hk : s.hd.kind ≠ 0) :
    match makesE s with
    | .error e => ∃ h', Ext h₀ h' ∧ ∀ (α : Type) (pan : V → M α) (ret : Int → Int → List UInt8 → Int → M α), spmakes.f (k + 2) ⟨p, 0⟩ pan ret h = pan (thrown e) h'
    | .ok x => ∃ h' ls', (∀ (α : Type) (pan : V → M α) (ret : Int → Int → List UInt8 → Int → M α), spmakes.f (k + 2) ⟨p, 0⟩ pan ret h = ret x.1.kind x.1.pos x.1.text x.1.num h') ∧ PS h₀ h' p tb ls' fs x.2 ∧ QP p fs fs h h' := by
  have x1 : Ext h (h.push (.cells [.int .i64 0, .int .i64 0, .str [], .int .i64 0] true)) := (Ext.refl h).push _
  have P1 := P.push x1
  have hz : (h.push (.cells [.int .i64 0, .int .i64 0, .str [], .int .i64 0] true)).get h.next = some (.cells [.int .i64 0, .int .i64 0, .str [], .int .i64 0] true) := by rw [push_get, if_pos rfl]
  have hn1 : (h.push (.cells [.int .i64 0, .int .i64 0, .str [], .int .i64 0] true)).next = h.next + 1 := rfl
  have start : ∀ (α : Type) (pan : V → M α) (ret : Int → Int → List UInt8 → Int → M α), spmakes.f (k + 2) ⟨p, 0⟩ pan ret h = _ := fun α pan ret => by
    rw [spmakes.f, spmakes.u1.f, new_run rfl, p_made P1]
  generalize h.push (.cells [.int .i64 0, .int .i64 0, .str [], .int .i64 0] true) = h1 at start x1 P1 hz hn1
  have hpl := P.plt
  have hlts := P.lts
  unfold makesE
  by_cases h60 : s.made = 60
  · rw [if_pos h60]
    refine ⟨h1, P1.ext, fun α pan ret => ?_⟩
    rw [start, dT (by rw [h60]; rfl), cond_true, p_l P1, tk_pos P1.toks (x := 0) (i := 0) rfl P1.hd]
  rw [if_neg h60]
  have hm := P.m60
  have hb := P.bal
  -- one more is made
  have P2 := P1.setblk (ls' := ls) (s' := { s with made := s.made + 1 }) rfl P1.toks P1.fine (fun b hb => ⟨b, hb, rfl⟩) P1.ends (by show s.f.length ≤ s.made + 1; omega) (by show s.made + 1 ≤ 60; omega)
  have q2 : QP p fs fs h1 (h1.put p (some (.cells [.slice ls, .int .i64 ((s.made + 1 : Nat) : Int), .slice fs] true))) := qp_put _
  have e2 : ∀ (α : Type) (K : M α), st1 (((⟨p, 0⟩ : Ad).add 1).add 0) (.int .i64 ((s.made + 1 : Nat) : Int)) K h1 = K (h1.put p (some (.cells [.slice ls, .int .i64 ((s.made + 1 : Nat) : Int), .slice fs] true))) := fun α K => by
    simp only [add_mk]
    rw [st1_run (a := ⟨p, 0 + 1 + 0⟩) P1.blk rfl (by simp)]
    rfl
  have hz2 : (h1.put p (some (.cells [.slice ls, .int .i64 ((s.made + 1 : Nat) : Int), .slice fs] true))).get h.next = some (.cells [.int .i64 0, .int .i64 0, .str [], .int .i64 0] true) := by rw [put_get_if, if_neg (by omega)]; exact hz
  have hn2 : (h1.put p (some (.cells [.slice ls, .int .i64 ((s.made + 1 : Nat) : Int), .slice fs] true))).next = h1.next := rfl
  generalize h1.put p (some (.cells [.slice ls, .int .i64 ((s.made + 1 : Nat) : Int), .slice fs] true)) = h2 at P2 q2 e2 hz2 hn2
  obtain ⟨h3, ls3, e3, P3, q3⟩ := next_run P2 k hk
  have hf3 : ∀ a, fs.ad = some a → a.id ≠ h.next := fun a ha => by have := hlts.2 a ha; omega
  have hz3 : h3.get h.next = some (.cells [.int .i64 0, .int .i64 0, .str [], .int .i64 0] true) := by
    rw [q3.keep h.next (by omega) (by omega) (fun a ha => Ne.symm (hf3 a ha))]; exact hz2
  have P4 := P3.other (tkC s.hd) (i := h.next) P.ext.1 (by omega) (by have := P.tl; omega) hf3
  refine ⟨h3.put h.next (some (tkC s.hd)), ls3, fun α pan ret => ?_, P4, ⟨by show h.next ≤ h3.next; have := q3.nx; omega, fun i hi hp ha => by rw [put_get_if, if_neg (by omega), q3.keep i (by omega) hp ha, q2.keep i (by omega) hp ha, x1.2 i hi], fun _ _ => .inr rfl⟩⟩
  rw [start, dF (by omega : ¬ (s.made : Int) = 60), cond_false, p_made P1, w64_eq (by omega) (by omega)]
  refine (e2 α _).trans ?_
  rw [e3]
  show (st1 ((⟨h.next, 0⟩ : Ad).add 0) (.int .i64 s.hd.kind) <| st1 ((⟨h.next, 0⟩ : Ad).add 1) (.int .i64 s.hd.pos) <| st1 ((⟨h.next, 0⟩ : Ad).add 2) (.str s.hd.text) <| st1 ((⟨h.next, 0⟩ : Ad).add 3) (.int .i64 s.hd.num) _) h3 = _
  rw [st4_run hz3, tk4_all (t := s.hd) (by rw [put_get])]
end
end Go.Ab.S3
