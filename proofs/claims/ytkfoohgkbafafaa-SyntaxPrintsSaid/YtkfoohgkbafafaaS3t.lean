import Derived.Test.YtkfoohgkbafafaaAb20
import Derived.Test.YtkfoohgkbafafaaS3x
namespace Go.Ab.S3
set_option linter.unusedVariables false
set_option linter.unusedSimpArgs false
variable {α : Type} {h : H}
theorem dT {p : Prop} [Decidable p] (h : p) : decide p = true := decide_eq_true h
theorem dF {p : Prop} [Decidable p] (h : ¬ p) : decide p = false := decide_eq_false h
theorem cT {β : Type} {c : Bool} {a b : β} (h : c = true) : cond c a b = a := by subst h; rfl
theorem cF {β : Type} {c : Bool} {a b : β} (h : c = false) : cond c a b = b := by subst h; rfl
structure Nd where
  kind : Int
  a : Int
  b : Int
  name : List UInt8
  pos : Int
  deriving DecidableEq, Inhabited
def Nd.cells (n : Nd) : List V := [.int .i64 n.kind, .int .i64 n.a, .int .i64 n.b, .str n.name, .int .i64 n.pos]
theorem Nd.len (n : Nd) : n.cells.length = 5 := rfl
abbrev cN (l : List Nd) : List V := l.flatMap Nd.cells
abbrev NdR (h : H) (s : Sl) (l : List Nd) : Prop := Rd h s 5 (cN l)
theorem nd_slen {s : Sl} {l : List Nd} (r : NdR h s l) : s.len = l.length := slen Nd.len (by decide) r
theorem nd_cell {s : Sl} {l : List Nd} (r : NdR h s l) {i : Nat} {n : Nd} (hi : l[i]? = some n) {j : Nat} {v : V} (hv : n.cells[j]? = some v) (hj : j < 5) : (cN l)[i * 5 + j]? = some v :=
  (flat_get Nd.len l i n j hi hj).trans hv
theorem nd_idx {s : Sl} {l : List Nd} (r : NdR h s l) {x : Int} {i : Nat} {n : Nd} (hx : x = (i : Int)) (hi : l[i]? = some n) (K : Ad → M α) : idxSl s x 5 K h = K (s.at (i * 5)) h :=
  idx_run r hx (by rw [nd_slen r]; exact get_lt hi) K
theorem nd_kind {s : Sl} {l : List Nd} (r : NdR h s l) {x : Int} {i : Nat} {n : Nd} (hx : x = (i : Int)) (hi : l[i]? = some n) (K : Int → M α) : idxSl s x 5 (fun a => ldI .i64 ((a.add 0).add 0) K) h = K n.kind h := by
  rw [nd_idx r hx hi, at_add, at_add]; exact r.ldI (nd_cell r hi (j := 0) rfl (by decide)) K
theorem nd_a {s : Sl} {l : List Nd} (r : NdR h s l) {x : Int} {i : Nat} {n : Nd} (hx : x = (i : Int)) (hi : l[i]? = some n) (K : Int → M α) : idxSl s x 5 (fun a => ldI .i64 ((a.add 1).add 0) K) h = K n.a h := by
  rw [nd_idx r hx hi, at_add, at_add]; exact r.ldI (nd_cell r hi (j := 1) rfl (by decide)) K
theorem nd_b {s : Sl} {l : List Nd} (r : NdR h s l) {x : Int} {i : Nat} {n : Nd} (hx : x = (i : Int)) (hi : l[i]? = some n) (K : Int → M α) : idxSl s x 5 (fun a => ldI .i64 ((a.add 2).add 0) K) h = K n.b h := by
  rw [nd_idx r hx hi, at_add, at_add]; exact r.ldI (nd_cell r hi (j := 2) rfl (by decide)) K
theorem nd_rd {s : Sl} {l : List Nd} (r : NdR h s l) {x : Int} {i : Nat} {n : Nd} (hx : x = (i : Int)) (hi : l[i]? = some n) (K : Int → Int → Int → List UInt8 → Int → M α) :
    idxSl s x 5 (fun a => ldI .i64 (a.add 0) fun x0 => ldI .i64 (a.add 1) fun x1 => ldI .i64 (a.add 2) fun x2 => ldStr (a.add 3) fun x3 => ldI .i64 (a.add 4) fun x4 => K x0 x1 x2 x3 x4) h = K n.kind n.a n.b n.name n.pos h := by
  rw [nd_idx r hx hi]
  simp only [at_add]
  rw [r.ldI (nd_cell r hi (j := 0) rfl (by decide)), r.ldI (nd_cell r hi (j := 1) rfl (by decide)), r.ldI (nd_cell r hi (j := 2) rfl (by decide)), r.ldStr (nd_cell r hi (j := 3) rfl (by decide)), r.ldI (nd_cell r hi (j := 4) rfl (by decide))]
theorem nd_copy {x0 x1 x2 x4 : Int} {x3 : List UInt8} {z0 z1 z2 z4 : Int} {z3 : List UInt8} (K : Ad → M α) :
    new [.int .i64 z0, .int .i64 z1, .int .i64 z2, .str z3, .int .i64 z4] (fun n => st1 (n.add 0) (.int .i64 x0) <| st1 (n.add 1) (.int .i64 x1) <| st1 (n.add 2) (.int .i64 x2) <| st1 (n.add 3) (.str x3) <| st1 (n.add 4) (.int .i64 x4) <| K n) h =
      K ⟨h.next, 0⟩ (h.push (.cells [.int .i64 x0, .int .i64 x1, .int .i64 x2, .str x3, .int .i64 x4] true)) := by
  rw [new_run rfl]
  simp only [add_mk, Nat.zero_add]
  rw [st1_new rfl (by simp), st1_new rfl (by simp), st1_new rfl (by simp), st1_new rfl (by simp), st1_new rfl (by simp)]
  rfl
theorem n5_0 {x0 x1 x2 x4 : Int} {x3 : List UInt8} (o : Bool) (K : Int → M α) : ldI .i64 (((⟨h.next, 0⟩ : Ad).add 0).add 0) K (h.push (.cells [.int .i64 x0, .int .i64 x1, .int .i64 x2, .str x3, .int .i64 x4] o)) = K x0 (h.push (.cells [.int .i64 x0, .int .i64 x1, .int .i64 x2, .str x3, .int .i64 x4] o)) := ldI_run (by simp only [add_mk]; rw [cell_new]; rfl)
theorem n5_3 {x0 x1 x2 x4 : Int} {x3 : List UInt8} (o : Bool) (K : List UInt8 → M α) : ldStr (((⟨h.next, 0⟩ : Ad).add 3).add 0) K (h.push (.cells [.int .i64 x0, .int .i64 x1, .int .i64 x2, .str x3, .int .i64 x4] o)) = K x3 (h.push (.cells [.int .i64 x0, .int .i64 x1, .int .i64 x2, .str x3, .int .i64 x4] o)) := ldStr_run (by simp only [add_mk]; rw [cell_new]; rfl)
theorem n5_all {x0 x1 x2 x4 : Int} {x3 : List UInt8} (o : Bool) (K : Int → Int → Int → List UInt8 → Int → M α) :
    (ldI .i64 ((⟨h.next, 0⟩ : Ad).add 0) fun y0 => ldI .i64 ((⟨h.next, 0⟩ : Ad).add 1) fun y1 => ldI .i64 ((⟨h.next, 0⟩ : Ad).add 2) fun y2 => ldStr ((⟨h.next, 0⟩ : Ad).add 3) fun y3 => ldI .i64 ((⟨h.next, 0⟩ : Ad).add 4) fun y4 => K y0 y1 y2 y3 y4) (h.push (.cells [.int .i64 x0, .int .i64 x1, .int .i64 x2, .str x3, .int .i64 x4] o)) =
      K x0 x1 x2 x3 x4 (h.push (.cells [.int .i64 x0, .int .i64 x1, .int .i64 x2, .str x3, .int .i64 x4] o)) := by
  simp only [add_mk]
  rw [ldI_run (by rw [cell_new]; rfl), ldI_run (by rw [cell_new]; rfl), ldI_run (by rw [cell_new]; rfl), ldStr_run (by rw [cell_new]; rfl), ldI_run (by rw [cell_new]; rfl)]
def speltF (lo hi : Int) : List UInt8 → Bool
  | [] => false
  | c :: r => decide (r.length < 8) && decide (lo ≤ (c.toNat : Int)) && decide ((c.toNat : Int) ≤ hi) && (c :: r).all innerB
def wordsF (s : List UInt8) : Bool := decide (s = [116, 116]) || decide (s = [102, 102]) || decide (s = [109, 117]) || decide (s = [110, 117])
def nameF (s : List UInt8) : Bool := speltF 97 122 s && !wordsF s
def varF (s : List UInt8) : Bool := speltF 65 90 s
theorem spelt_byte : ∀ n : Nat, n < 256 → (innerB (UInt8.ofNat n)) = ((!decide (bits .or .u8 (n : Int) 32 < 97) && !decide (122 < bits .or .u8 (n : Int) 32)) || ((!decide ((n : Int) < 48) && !decide (57 < (n : Int))) || decide ((n : Int) = 95))) := by
  decide +kernel
theorem u8_nat (c : UInt8) : UInt8.ofNat c.toNat = c := by simp
theorem spelt_loop (k : Nat) {s : List UInt8} (hs : s.length ≤ 8) : ∀ (j n : Nat), n ≤ s.length → s.length - n < j → ∀ (kr : Bool → M α) (kx : M α),
    syntax_spelt.u4.l k kr kx j s (s.length : Int) (n : Int) h = if (s.drop n).all innerB then kx h else kr false h := by
  intro j
  induction j with
  | zero => intro n hn hj; omega
  | succ j ih =>
    intro n hn hj kr kx
    rw [syntax_spelt.u4.l, syntax_spelt.u3.f]
    by_cases hlt : n < s.length
    · have hc : s[n]? = some s[n] := List.getElem?_eq_getElem hlt
      rw [show decide ((n : Int) < (s.length : Int)) = true by simpa using hlt, cond_true, idxStr_run rfl hc, drop_get hlt, List.all_cons]
      have hb := spelt_byte s[n].toNat s[n].toNat_lt
      rw [u8_nat] at hb
      have next := ih (n + 1) (by omega) (by omega) kr kx
      rw [w64_eq (by omega) (by omega), show ((n : Int) + 1) = ((n + 1 : Nat) : Int) by omega]
      rw [hb]
      generalize decide (bits .or .u8 (s[n].toNat : Int) 32 < 97) = b1
      generalize decide (122 < bits .or .u8 (s[n].toNat : Int) 32) = b2
      generalize decide ((s[n].toNat : Int) < 48) = b3
      generalize decide (57 < (s[n].toNat : Int)) = b4
      generalize decide ((s[n].toNat : Int) = 95) = b5
      cases b1 <;> cases b2 <;> cases b3 <;> cases b4 <;> cases b5 <;> first | exact next | rfl
    · rw [show decide ((n : Int) < (s.length : Int)) = false by simpa using hlt, cond_false, List.drop_of_length_le (by omega)]
      simp
theorem spelt_run (k : Nat) (hk : 10 ≤ k) (s : List UInt8) (lo hi : Int) (ret : Bool → M α) : syntax_spelt.f (k + 1) s lo hi ret h = ret (speltF lo hi s) h := by
  simp only [syntax_spelt.f]
  unfold syntax_spelt.u9.f syntax_spelt.u1.f
  cases s with
  | nil => simp [speltF]
  | cons c r =>
    have hc : (c :: r)[0]? = some c := rfl
    rw [show decide (((c :: r).length : Int) < 1) = false by simp; omega, cond_false]
    simp only [speltF]
    by_cases h8 : r.length < 8
    · rw [show decide (8 < ((c :: r).length : Int)) = false by simp; omega, cond_false, idxStr_run (i := 0) (n := 0) rfl hc, decide_eq_true h8]
      by_cases h1 : lo ≤ (c.toNat : Int)
      · rw [show decide ((c.toNat : Int) < lo) = false by simpa using h1, cond_false, idxStr_run (i := 0) (n := 0) rfl hc, decide_eq_true h1]
        by_cases h2 : (c.toNat : Int) ≤ hi
        · rw [show decide (hi < (c.toNat : Int)) = false by simpa using h2, cond_false, decide_eq_true h2]
          unfold syntax_spelt.u8.f syntax_spelt.u6.f syntax_spelt.u2.f syntax_spelt.u5.f syntax_spelt.u4.f
          refine (spelt_loop k (s := c :: r) (by simp; omega) k 0 (Nat.zero_le _) (by simp; omega) _ _).trans ?_
          rw [List.drop_zero]
          cases (c :: r).all innerB <;> rfl
        · rw [dT (by omega : hi < (c.toNat : Int)), dF h2]; rfl
      · rw [dT (by omega : (c.toNat : Int) < lo), dF h1]; rfl
    · simp [h8]
      rw [show decide (8 < (r.length : Int) + 1) = true by simp; omega, cond_true]
theorem word_run (k : Nat) (s : List UInt8) (ret : Bool → M α) : syntax_word.f (k + 1) s ret h = ret (wordsF s) h := by
  simp only [syntax_word.f]
  unfold syntax_word.u1.f wordsF
  generalize decide (s = [116, 116]) = b1
  generalize decide (s = [102, 102]) = b2
  generalize decide (s = [109, 117]) = b3
  generalize decide (s = [110, 117]) = b4
  cases b1 <;> cases b2 <;> cases b3 <;> rfl
theorem sname_run (k : Nat) (hk : 11 ≤ k) (s : List UInt8) (ret : Bool → M α) : syntax_name.f (k + 1) s ret h = ret (nameF s) h := by
  obtain ⟨k, rfl⟩ : ∃ q, k = q + 1 := ⟨k - 1, by omega⟩
  simp only [syntax_name.f]
  unfold syntax_name.u1.f nameF
  rw [spelt_run k (by omega)]
  cases speltF 97 122 s
  · rfl
  · rw [cond_true, word_run]; rfl
theorem svar_run (k : Nat) (hk : 11 ≤ k) (s : List UInt8) (ret : Bool → M α) : syntax_variable.f (k + 1) s ret h = ret (varF s) h := by
  obtain ⟨k, rfl⟩ : ∃ q, k = q + 1 := ⟨k - 1, by omega⟩
  simp only [syntax_variable.f]
  unfold syntax_variable.u1.f varF
  rw [spelt_run k (by omega)]
theorem inner_cases (c : UInt8) : innerB c = ((decide (97 ≤ (c.toNat : Int)) && decide ((c.toNat : Int) ≤ 122)) || ((decide (65 ≤ (c.toNat : Int)) && decide ((c.toNat : Int) ≤ 90)) || ((decide (48 ≤ (c.toNat : Int)) && decide ((c.toNat : Int) ≤ 57)) || decide ((c.toNat : Int) = 95)))) := by
  rw [Bool.eq_iff_iff]
  simp only [innerB, digitB, Bool.or_eq_true, Bool.and_eq_true, decide_eq_true_eq]
  omega
theorem rname_loop (k : Nat) {s : List UInt8} (hs : s.length ≤ 8) : ∀ (j n : Nat), n ≤ s.length → s.length - n < j → ∀ (kr : Bool → M α) (kx : M α),
    r3Name.u9.l k kr kx j s (n : Int) h = if (s.drop n).all innerB then kx h else kr false h := by
  intro j
  induction j with
  | zero => intro n hn hj; omega
  | succ j ih =>
    intro n hn hj kr kx
    rw [r3Name.u9.l]
    unfold r3Name.u8.f r3Name.u3.f
    by_cases hlt : n < s.length
    · have hc : s[n]? = some s[n] := List.getElem?_eq_getElem hlt
      unfold r3Name.u7.f r3Name.u5.f r3Name.u4.f r3Name.u6.f
      dsimp only
      rw [show decide ((n : Int) < (s.length : Int)) = true by simpa using hlt, cond_true, idxStr_run rfl hc, drop_get hlt, List.all_cons]
      have next := ih (n + 1) (by omega) (by omega) kr kx
      rw [w64_eq (by omega) (by omega), show ((n : Int) + 1) = ((n + 1 : Nat) : Int) by omega, inner_cases]
      generalize decide (97 ≤ (s[n].toNat : Int)) = b1
      generalize decide ((s[n].toNat : Int) ≤ 122) = b2
      generalize decide (65 ≤ (s[n].toNat : Int)) = b3
      generalize decide ((s[n].toNat : Int) ≤ 90) = b4
      generalize decide (48 ≤ (s[n].toNat : Int)) = b5
      generalize decide ((s[n].toNat : Int) ≤ 57) = b6
      generalize decide ((s[n].toNat : Int) = 95) = b7
      cases b1 <;> cases b2 <;> cases b3 <;> cases b4 <;> cases b5 <;> cases b6 <;> cases b7 <;> first | exact next | rfl
    · rw [show decide ((n : Int) < (s.length : Int)) = false by simpa using hlt, cond_false, List.drop_of_length_le (by omega)]
      simp
theorem rname_run (k : Nat) (hk : 10 ≤ k) (s : List UInt8) (ret : Bool → M α) : r3Name.f (k + 1) s ret h = ret (nameF s) h := by
  simp only [r3Name.f]
  unfold r3Name.u14.f r3Name.u1.f nameF
  cases s with
  | nil => simp [speltF]
  | cons c r =>
    have hc : (c :: r)[0]? = some c := rfl
    rw [show decide (((c :: r).length : Int) < 1) = false by simp; omega, cond_false]
    simp only [speltF]
    by_cases h8 : r.length < 8
    · rw [show decide (8 < ((c :: r).length : Int)) = false by simp; omega, cond_false, idxStr_run (i := 0) (n := 0) rfl hc, decide_eq_true h8]
      by_cases h1 : 97 ≤ (c.toNat : Int)
      · rw [show decide ((c.toNat : Int) < 97) = false by simpa using h1, cond_false, idxStr_run (i := 0) (n := 0) rfl hc, decide_eq_true h1]
        by_cases h2 : (c.toNat : Int) ≤ 122
        · rw [show decide (122 < (c.toNat : Int)) = false by simpa using h2, cond_false, decide_eq_true h2]
          unfold r3Name.u13.f r3Name.u11.f r3Name.u2.f r3Name.u10.f r3Name.u9.f r3Name.u12.f
          have lp := rname_loop (h := h) k (s := c :: r) (by simp; omega) k 0 (Nat.zero_le _) (by simp; omega) ret (ret true)
          rw [List.drop_zero] at lp
          simp only [wordsF]
          generalize decide (c :: r = [116, 116]) = b1
          generalize decide (c :: r = [102, 102]) = b2
          generalize decide (c :: r = [109, 117]) = b3
          generalize decide (c :: r = [110, 117]) = b4
          generalize (c :: r).all innerB = q at lp
          cases b1 <;> cases b2 <;> cases b3 <;> cases b4 <;> cases q <;> first | exact lp | rfl
        · rw [dT (by omega : 122 < (c.toNat : Int)), dF h2]; rfl
      · rw [dT (by omega : (c.toNat : Int) < 97), dF h1]; rfl
    · simp [h8]
      rw [show decide (8 < (r.length : Int) + 1) = true by simp; omega, cond_true]
theorem rvar_run (k : Nat) (hk : 11 ≤ k) (s : List UInt8) (ret : Bool → M α) (hl : s.length ≤ 4611686018427387900) : r4Variable.f (k + 1) s ret h = ret (varF s) h := by
  obtain ⟨k, rfl⟩ : ∃ q, k = q + 1 := ⟨k - 1, by omega⟩
  simp only [r4Variable.f]
  unfold r4Variable.u1.f varF
  cases s with
  | nil => rfl
  | cons c r =>
    have hc : (c :: r)[0]? = some c := rfl
    rw [show decide (((c :: r).length : Int) < 1) = false by simp; omega, cond_false, idxStr_run (i := 0) (n := 0) rfl hc]
    simp only [speltF]
    by_cases h1 : 65 ≤ (c.toNat : Int)
    · rw [dF (by omega : ¬ (c.toNat : Int) < 65), cond_false, idxStr_run (i := 0) (n := 0) rfl hc]
      by_cases h2 : (c.toNat : Int) ≤ 90
      · rw [dF (by omega : ¬ 90 < (c.toNat : Int)), cond_false, cutStr_from (x := 1) (n := 1) rfl (by simp)]
        unfold cat
        rw [need_run (Nat.ble_eq_true_of_le (by simp at hl ⊢; omega))]
        dsimp only
        rw [rname_run k (by omega)]
        congr 1
        have hi : innerB c = true := by rw [inner_cases]; simp only [Bool.or_eq_true, Bool.and_eq_true, decide_eq_true_eq]; omega
        have hw : wordsF ([97] ++ List.drop 1 (c :: r)) = false := by
          simp [wordsF]
        unfold nameF
        rw [hw]
        simp only [List.cons_append, List.nil_append, List.drop_succ_cons, List.drop_zero, speltF, List.all_cons, hi, h1, h2, decide_true]
        simp [inner_cases]
      · rw [dT (by omega : 90 < (c.toNat : Int)), dF h2]; simp
    · rw [dT (by omega : (c.toNat : Int) < 65), dF h1]; simp
def arF (k : Int) : Int := if k = 1 ∨ k = 2 ∨ k = 3 ∨ k = 4 then 0 else if k = 5 ∨ k = 8 ∨ k = 9 ∨ k = 10 ∨ k = 11 then 1 else if k = 6 ∨ k = 7 then 2 else -1
def namedF (k : Int) (s : List UInt8) : Bool := if k = 3 then nameF s else if k = 4 ∨ k = 10 ∨ k = 11 then varF s else if k = 8 ∨ k = 9 then decide (s = [45]) || nameF s else decide (s = [])
theorem kinds (k : Int) : k = 1 ∨ k = 2 ∨ k = 3 ∨ k = 4 ∨ k = 5 ∨ k = 6 ∨ k = 7 ∨ k = 8 ∨ k = 9 ∨ k = 10 ∨ k = 11 ∨ (k ≠ 1 ∧ k ≠ 2 ∧ k ≠ 3 ∧ k ≠ 4 ∧ k ≠ 5 ∧ k ≠ 6 ∧ k ≠ 7 ∧ k ≠ 8 ∧ k ≠ 9 ∧ k ≠ 10 ∧ k ≠ 11) := by omega
theorem rbelow_run (k : Nat) (x : Int) (ret : Int → M α) : r4Below.f (k + 1) x ret h = ret (arF x) h := by
  simp only [r4Below.f]
  unfold r4Below.u1.f arF
  rcases kinds x with rfl | rfl | rfl | rfl | rfl | rfl | rfl | rfl | rfl | rfl | rfl | ⟨h1, h2, h3, h4, h5, h6, h7, h8, h9, h10, h11⟩
  case inr.inr.inr.inr.inr.inr.inr.inr.inr.inr.inr => simp only [↓cF, h1, h2, h3, h4, h5, h6, h7, h8, h9, h10, h11, decide_false, or_false, if_false]
  all_goals simp only [↓cT, ↓cF, Int.reduceEq, decide_true, decide_false, true_or, or_true, or_false, false_or, if_true, if_false]
theorem rnamed_run (k : Nat) (hk : 12 ≤ k) (x a b p : Int) (s : List UInt8) (hl : s.length ≤ 4611686018427387900) (ret : Bool → M α) : r4named.f (k + 1) x a b s p ret h = ret (namedF x s) (h.push (.cells [.int .i64 x, .int .i64 a, .int .i64 b, .str s, .int .i64 p] true)) := by
  obtain ⟨k, rfl⟩ : ∃ q, k = q + 1 := ⟨k - 1, by omega⟩
  simp only [r4named.f]
  unfold r4named.u1.f namedF
  rw [new_run rfl, n5_0]
  rcases kinds x with rfl | rfl | rfl | rfl | rfl | rfl | rfl | rfl | rfl | rfl | rfl | ⟨h1, h2, h3, h4, h5, h6, h7, h8, h9, h10, h11⟩
  case inr.inr.inr.inr.inr.inr.inr.inr.inr.inr.inr => simp only [↓cF, h1, h2, h3, h4, h5, h6, h7, h8, h9, h10, h11, decide_false, or_false, if_false, n5_3]
  all_goals simp only [↓cT, ↓cF, Int.reduceEq, decide_true, decide_false, true_or, or_true, or_false, false_or, if_true, if_false, n5_3, rname_run k (by omega), rvar_run k (by omega) s _ hl]
  all_goals (cases decide (s = [45]) <;> simp only [cond_true, cond_false, n5_3, rname_run k (by omega), Bool.true_or, Bool.false_or])
def belF (k : Int) : Int := if arF k = -1 then 0 else arF k
theorem below_run (k : Nat) (hk : 12 ≤ k) (x a b p : Int) (s : List UInt8) (ret : Int → Bool → M α) :
    syntax_below.f (k + 1) x a b s p ret h = ret (belF x) (decide (0 ≤ arF x) && namedF x s) (h.push (.cells [.int .i64 x, .int .i64 a, .int .i64 b, .str s, .int .i64 p] true)) := by
  obtain ⟨k, rfl⟩ : ∃ q, k = q + 1 := ⟨k - 1, by omega⟩
  simp only [syntax_below.f]
  unfold syntax_below.u1.f belF arF namedF
  rw [new_run rfl, n5_0]
  rcases kinds x with rfl | rfl | rfl | rfl | rfl | rfl | rfl | rfl | rfl | rfl | rfl | ⟨h1, h2, h3, h4, h5, h6, h7, h8, h9, h10, h11⟩
  case inr.inr.inr.inr.inr.inr.inr.inr.inr.inr.inr => simp only [↓cF, h1, h2, h3, h4, h5, h6, h7, h8, h9, h10, h11, decide_false, or_false, if_false, n5_3]; rfl
  all_goals simp only [↓cT, ↓cF, Int.reduceEq, Int.reduceLE, decide_true, decide_false, true_or, or_true, or_false, false_or, if_true, if_false, n5_3, sname_run k (by omega), svar_run k (by omega), Bool.true_and, Int.reduceNeg]
  all_goals (cases decide (s = [45]) <;> simp only [cond_true, cond_false, n5_3, sname_run k (by omega), Bool.true_or, Bool.false_or])
end Go.Ab.S3
namespace Go.Ab.S3
set_option linter.unusedVariables false
set_option linter.unusedSimpArgs false
variable {α : Type} {h : H}
abbrev cIs (l : List Int) : List V := l.flatMap cI
theorem Rd.pushed (h : H) {cs : List V} {o : Bool} {n c size : Nat} {lo : Option Nat} (hl : cs.length = n * size) : Rd (h.push (.cells cs o)) ⟨some ⟨h.next, 0⟩, n, c, lo⟩ size cs := by
  refine ⟨hl, fun a ha => ?_, fun ha => by cases ha⟩
  cases ha
  refine ⟨?_, by rw [push_next]; exact Nat.lt_succ_self _⟩
  rw [row_of (cs := cs) (o := o) (by show (h.push _).get h.next = _; rw [push_get, if_pos rfl]) (by show 0 + _ ≤ _; omega), List.drop_zero, List.take_length]
theorem ints_len {s : Sl} {l : List Int} (r : Rd h s 1 (cIs l)) : s.len = l.length := slen (size := 1) (fun _ => rfl) (by decide) r
theorem any_loop (k : Nat) {s : Sl} {l : List Int} (r : Rd h s 1 (cIs l)) (hl : l.length ≤ 4611686018427387900) : ∀ (j n : Nat), n ≤ l.length → l.length - n < j → ∀ (α : Type) (kr : Int → M α) (kx : M α),
    slII.u4.l (k + 1) kr kx j s (l.length : Int) (n : Int) h = (match (l.drop n).findIdx? (· ≠ 0) with | some i => kr ((n + i : Nat) : Int) h | none => kx h) := by
  intro j
  induction j with
  | zero => intro n hn hj; omega
  | succ j ih =>
    intro n hn hj α kr kx
    rw [slII.u4.l, slII.u3.f]
    by_cases hlt : n < l.length
    · rw [dT (by omega : (n : Int) < (l.length : Int)), cond_true, int_rd r rfl (List.getElem?_eq_getElem hlt), List.drop_eq_getElem_cons hlt, List.findIdx?_cons]
      simp only [syntax_Right_c1.f, syntax_Right_c1.u1.f]
      by_cases h0 : l[n] = 0
      · rw [dT h0]
        rw [Bool.not_true, cond_false, w64_eq (by omega) (by omega), show ((n : Int) + 1) = ((n + 1 : Nat) : Int) by omega, ih (n + 1) (by omega) (by omega), if_neg (by simp [h0])]
        cases hf : (l.drop (n + 1)).findIdx? (· ≠ 0) with
        | none => rfl
        | some i =>
          show kr _ h = kr _ h
          rw [show n + 1 + i = n + (i + 1) by omega]
      · rw [dF h0, if_pos (by simp [h0])]
        rfl
    · rw [dF (by omega : ¬ (n : Int) < (l.length : Int)), cond_false, List.drop_of_length_le (by omega)]
      rfl
theorem any_run (k : Nat) {s : Sl} {l : List Int} (r : Rd h s 1 (cIs l)) (hk : l.length + 2 ≤ k) (hl : l.length ≤ 4611686018427387900) (ret : Bool → M α) : slices_ContainsFunc_int_int_38.f (k + 1) s ret h = ret (l.any (fun x => decide (x ≠ 0))) h := by
  obtain ⟨k, rfl⟩ : ∃ q, k = q + 2 := ⟨k - 2, by omega⟩
  simp only [slices_ContainsFunc_int_int_38.f]
  unfold slices_ContainsFunc_int_int_38.u1.f
  simp only [slII.f]
  unfold slII.u9.f slII.u1.f slII.u8.f slII.u6.f slII.u2.f slII.u5.f slII.u4.f slII.u7.f
  dsimp only
  rw [ints_len r]
  refine (any_loop k r hl (k + 1) 0 (Nat.zero_le _) (by omega) α _ _).trans ?_
  rw [List.drop_zero]
  cases hf : l.findIdx? (· ≠ 0) with
  | none =>
    have : l.any (fun x => decide (x ≠ 0)) = false := by
      rw [List.findIdx?_eq_none_iff] at hf
      rw [Bool.eq_false_iff]
      intro ha
      obtain ⟨x, hx, hx0⟩ := List.any_eq_true.1 ha
      have := hf x hx
      rw [hx0] at this; cases this
    rw [this]; rfl
  | some i =>
    have : l.any (fun x => decide (x ≠ 0)) = true := by
      rw [List.findIdx?_eq_some_iff_getElem] at hf
      obtain ⟨hi, hp, _⟩ := hf
      exact List.any_eq_true.2 ⟨l[i], List.getElem_mem hi, hp⟩
    rw [this]
    dsimp only
    rw [dT (by omega : (0 : Int) ≤ _)]
theorem equal_loop (k : Nat) {s t : Sl} {l m : List Int} (r : Rd h s 1 (cIs l)) (q : Rd h t 1 (cIs m)) (he : l.length = m.length) (hl : l.length ≤ 4611686018427387900) : ∀ (j n : Nat), n ≤ l.length → l.length - n < j → ∀ (α : Type) (kr : Bool → M α) (kx : M α),
    slEq.u4.l k kr kx j s t (l.length : Int) (n : Int) h = if l.drop n = m.drop n then kx h else kr false h := by
  intro j
  induction j with
  | zero => intro n hn hj; omega
  | succ j ih =>
    intro n hn hj α kr kx
    rw [slEq.u4.l, slEq.u3.f]
    by_cases hlt : n < l.length
    · rw [dT (by omega : (n : Int) < (l.length : Int)), cond_true, int_rd r rfl (List.getElem?_eq_getElem hlt), int_rd q rfl (List.getElem?_eq_getElem (by omega)), List.drop_eq_getElem_cons hlt, List.drop_eq_getElem_cons (by omega : n < m.length)]
      by_cases h0 : l[n] = m[n]
      · rw [dT h0, Bool.not_true, cond_false, w64_eq (by omega) (by omega), show ((n : Int) + 1) = ((n + 1 : Nat) : Int) by omega, ih (n + 1) (by omega) (by omega)]
        simp only [h0, List.cons.injEq, true_and]
      · rw [dF h0]
        simp only [h0, List.cons.injEq, false_and, if_false]
        rfl
    · rw [dF (by omega : ¬ (n : Int) < (l.length : Int)), cond_false, List.drop_of_length_le (by omega), List.drop_of_length_le (by omega)]
      simp
theorem equal_run (k : Nat) {s t : Sl} {l m : List Int} (r : Rd h s 1 (cIs l)) (q : Rd h t 1 (cIs m)) (hk : l.length < k) (hl : l.length ≤ 4611686018427387900) (ret : Bool → M α) : slEq.f (k + 1) s t ret h = ret (decide (l = m)) h := by
  simp only [slEq.f]
  unfold slEq.u9.f slEq.u1.f slEq.u8.f slEq.u6.f slEq.u2.f slEq.u5.f slEq.u4.f slEq.u7.f
  dsimp only
  rw [ints_len r, ints_len q]
  by_cases he : l.length = m.length
  · rw [dT (by omega : (l.length : Int) = (m.length : Int)), Bool.not_true, cond_false]
    refine (equal_loop k r q he hl k 0 (Nat.zero_le _) (by omega) α _ _).trans ?_
    simp only [List.drop_zero]
    by_cases hm : l = m <;> simp [hm]
  · rw [dF (by omega : ¬ (l.length : Int) = (m.length : Int)), Bool.not_false, cond_true, dF (fun e => he (by rw [e]))]
def wantP (n : Nd) : List Int := [n.a, n.b]
def stepP (st : List Int) (i : Int) (n : Nd) : Option (List Int) :=
  if 0 ≤ arF n.kind ∧ namedF n.kind n.name = true then
    if st.length < (arF n.kind).toNat then none
    else if ((wantP n).drop (arF n.kind).toNat).any (fun x => decide (x ≠ 0)) then none
    else if st.drop (st.length - (arF n.kind).toNat) = (wantP n).take (arF n.kind).toNat then some (st.take (st.length - (arF n.kind).toNat) ++ [i]) else none
  else none
def rightL : List Nd → Nat → List Int → Option (List Int)
  | [], _, st => some st
  | n :: l, i, st => match stepP st i n with | none => none | some st' => rightL l (i + 1) st'
def rightF (l : List Nd) : Bool := decide (1 ≤ l.length ∧ l.length ≤ 60) && (match rightL l 0 [] with | some st => decide (st.length = 1) | none => false)
theorem ar_cases (x : Int) : arF x = -1 ∨ arF x = 0 ∨ arF x = 1 ∨ arF x = 2 := by
  unfold arF
  repeat' split
  all_goals simp
theorem right_loop (k : Nat) (hk : 13 ≤ k) {f : Sl} {l : List Nd} (h₀ : H) (r₀ : NdR h₀ f l) (hl : l.length ≤ 60) (hk : 70 ≤ k) : ∀ (j n : Nat) (st : List Int) (sl : Sl) (h : H), n ≤ l.length → l.length - n < j → Ext h₀ h → App h sl 1 (cIs st) → Owned h₀ sl → (sl.loose = none → sl.len = 0) → st.length ≤ n →
    ∃ h', Ext h₀ h' ∧ (match rightL (l.drop n) n st with
      | none => ∀ (α : Type) (kr : Bool → M α) (kx : Sl → M α), syntax_Right.u4.l k kr kx j sl f (l.length : Int) (n : Int) h = kr false h'
      | some st' => ∃ sl' : Sl, sl'.len = st'.length ∧ ∀ (α : Type) (kr : Bool → M α) (kx : Sl → M α), syntax_Right.u4.l k kr kx j sl f (l.length : Int) (n : Int) h = kx sl' h') := by
  obtain ⟨k, rfl⟩ : ∃ q, k = q + 1 := ⟨k - 1, by omega⟩
  intro j
  induction j with
  | zero => intro n st sl h hn hj; omega
  | succ j ih =>
    intro n st sl h hn hj x ap ow hlo hst
    have hsl : sl.len = st.length := ints_len ap.rd
    by_cases hlt : n < l.length
    rotate_left
    · rw [List.drop_of_length_le (by omega)]
      refine ⟨h, x, sl, hsl, fun α kr kx => ?_⟩
      rw [syntax_Right.u4.l, syntax_Right.u3.f, dF (by omega : ¬ (n : Int) < (l.length : Int)), cond_false]
    have hi : l[n]? = some l[n] := List.getElem?_eq_getElem hlt
    rw [List.drop_eq_getElem_cons hlt, rightL]
    generalize l[n] = nd at hi
    -- up to the call of below
    have r := r₀.ext x
    have start : ∀ (α : Type) (kr : Bool → M α) (kx : Sl → M α), syntax_Right.u4.l (k + 1) kr kx (j + 1) sl f (l.length : Int) (n : Int) h = _ := fun α kr kx => by
      rw [syntax_Right.u4.l, syntax_Right.u3.f, dT (by omega : (n : Int) < (l.length : Int)), cond_true, nd_rd r rfl hi, nd_copy, n5_all, below_run k (by omega)]
    generalize hh1 : h.push (.cells [.int .i64 nd.kind, .int .i64 nd.a, .int .i64 nd.b, .str nd.name, .int .i64 nd.pos] true) = h1 at start
    have x1 : Ext h₀ (h1.push (.cells [.int .i64 nd.kind, .int .i64 nd.a, .int .i64 nd.b, .str nd.name, .int .i64 nd.pos] true)) := by
      rw [← hh1]; exact (x.push _).push _
    have ca : ∀ (α : Type) (K : Int → M α), ldI .i64 (((⟨h.next, 0⟩ : Ad).add 1).add 0) K (h1.push (.cells [.int .i64 nd.kind, .int .i64 nd.a, .int .i64 nd.b, .str nd.name, .int .i64 nd.pos] true)) = K nd.a (h1.push (.cells [.int .i64 nd.kind, .int .i64 nd.a, .int .i64 nd.b, .str nd.name, .int .i64 nd.pos] true)) := fun α K => by
      rw [← hh1]; exact ldI_run (by simp only [add_mk]; rw [cell_new2]; rfl)
    have cb : ∀ (α : Type) (K : Int → M α), ldI .i64 (((⟨h.next, 0⟩ : Ad).add 2).add 0) K (h1.push (.cells [.int .i64 nd.kind, .int .i64 nd.a, .int .i64 nd.b, .str nd.name, .int .i64 nd.pos] true)) = K nd.b (h1.push (.cells [.int .i64 nd.kind, .int .i64 nd.a, .int .i64 nd.b, .str nd.name, .int .i64 nd.pos] true)) := fun α K => by
      rw [← hh1]; exact ldI_run (by simp only [add_mk]; rw [cell_new2]; rfl)
    have x12 : Ext h (h1.push (.cells [.int .i64 nd.kind, .int .i64 nd.a, .int .i64 nd.b, .str nd.name, .int .i64 nd.pos] true)) := by
      rw [← hh1]; exact ((Ext.refl h).push _).push _
    generalize h1.push (.cells [.int .i64 nd.kind, .int .i64 nd.a, .int .i64 nd.b, .str nd.name, .int .i64 nd.pos] true) = h2 at start x1 ca cb x12
    clear hh1 h1
    unfold stepP
    by_cases hok : 0 ≤ arF nd.kind ∧ namedF nd.kind nd.name = true
    rotate_left
    · rw [if_neg hok]
      refine ⟨h2, x1, fun α kr kx => ?_⟩
      rw [start]
      have : (decide (0 ≤ arF nd.kind) && namedF nd.kind nd.name) = false := by
        rw [Bool.and_eq_false_iff]
        by_cases h0 : 0 ≤ arF nd.kind
        · right; rw [Bool.eq_false_iff]; exact fun e => hok ⟨h0, e⟩
        · left; exact dF h0
      rw [this, Bool.not_false, cond_true]
    rw [if_pos hok]
    have hbel : belF nd.kind = ((arF nd.kind).toNat : Int) := by unfold belF; rw [if_neg (by omega)]; omega
    have har2 : (arF nd.kind).toNat ≤ 2 := by rcases ar_cases nd.kind with h | h | h | h <;> omega
    rw [dT hok.1, hok.2, hbel] at start
    simp only [Bool.and_self, Bool.not_true, cond_false] at start
    generalize (arF nd.kind).toNat = a at start har2
    by_cases hlen : st.length < a
    · rw [if_pos hlen]
      refine ⟨h2, x1, fun α kr kx => ?_⟩
      rw [start, dT (by omega : (sl.len : Int) < (a : Int)), cond_true]
    rw [if_neg hlen]
    -- what is wanted
    have rw1 : Rd (h2.push (.cells [.int .i64 nd.a, .int .i64 nd.b] true)) ⟨some ⟨h2.next, 0⟩, 2, 2, none⟩ 1 (cIs (wantP nd)) := Rd.pushed h2 rfl
    have x3 : Ext h2 (h2.push (.cells [.int .i64 nd.a, .int .i64 nd.b] true)) := (Ext.refl h2).push _
    have start2 : ∀ (α : Type) (kr : Bool → M α) (kx : Sl → M α), syntax_Right.u4.l (k + 1) kr kx (j + 1) sl f (l.length : Int) (n : Int) h = _ := fun α kr kx => by
      rw [start, dF (by omega : ¬ (sl.len : Int) < (a : Int)), cond_false, ca, cb, new_run rfl]
    generalize h2.push (.cells [.int .i64 nd.a, .int .i64 nd.b] true) = h3 at start2 rw1 x3
    have x03 := x1.trans x3
    have ap3 := ap.ext (x12.trans x3)
    have rf := rw1.from a (2 - a) 2 none har2 (Nat.le_refl _)
    rw [Nat.mul_one] at rf
    have e1 : (cIs (wantP nd)).drop a = cIs ((wantP nd).drop a) := by have := flat_drop (size := 1) (c := cI) (fun _ => rfl) (wantP nd) a; rwa [Nat.mul_one] at this
    have e2 : (cIs (wantP nd)).take a = cIs ((wantP nd).take a) := by have := flat_take (size := 1) (c := cI) (fun _ => rfl) (wantP nd) a; rwa [Nat.mul_one] at this
    rw [e1] at rf
    have start3 : ∀ (α : Type) (kr : Bool → M α) (kx : Sl → M α), syntax_Right.u4.l (k + 1) kr kx (j + 1) sl f (l.length : Int) (n : Int) h = _ := fun α kr kx => by
      rw [start2, cut_from (s := ⟨some ⟨h2.next, 0⟩, 2, 2, none⟩) ⟨Nat.le_refl _, .inl rfl⟩ rfl har2]
    have start4 : ∀ (α : Type) (kr : Bool → M α) (kx : Sl → M α), syntax_Right.u4.l (k + 1) kr kx (j + 1) sl f (l.length : Int) (n : Int) h = _ := fun α kr kx => by
      rw [start3, any_run k rf (by simp [wantP]; omega) (by simp [wantP]; omega)]
    clear start start2 start3
    by_cases hany : ((wantP nd).drop a).any (fun x => decide (x ≠ 0)) = true
    · rw [if_pos hany]
      refine ⟨h3, x03, fun α kr kx => ?_⟩
      rw [start4, hany, cond_true]
    rw [if_neg hany]
    rw [Bool.not_eq_true] at hany
    rw [hany] at start4
    have rs := ap3.rd.from (sl.len - a) (sl.cap - (sl.len - a)) sl.cap sl.loose (Nat.sub_le _ _) ap3.fine.1
    rw [Nat.mul_one] at rs
    have e3 : (cIs st).drop (sl.len - a) = cIs (st.drop (st.length - a)) := by rw [hsl]; have := flat_drop (size := 1) (c := cI) (fun _ => rfl) st (st.length - a); rwa [Nat.mul_one] at this
    rw [e3] at rs
    have rt := rw1.to a 2 none har2
    rw [Nat.mul_one, e2] at rt
    have ew : w64 ((sl.len : Int) - (a : Int)) = ((sl.len - a : Nat) : Int) := by rw [w64_eq (by omega) (by omega)]; omega
    have start5 : ∀ (α : Type) (kr : Bool → M α) (kx : Sl → M α), syntax_Right.u4.l (k + 1) kr kx (j + 1) sl f (l.length : Int) (n : Int) h = _ := fun α kr kx => by
      rw [start4, cond_false, ew, cut_from ap3.fine rfl (Nat.sub_le _ _), cut_to (s := ⟨some ⟨h2.next, 0⟩, 2, 2, none⟩) ⟨Nat.le_refl _, .inl rfl⟩ rfl har2]
    have start6 : ∀ (α : Type) (kr : Bool → M α) (kx : Sl → M α), syntax_Right.u4.l (k + 1) kr kx (j + 1) sl f (l.length : Int) (n : Int) h = _ := fun α kr kx => by
      rw [start5, equal_run k rs rt (by simp; omega) (by simp; omega)]
    clear start4 start5
    by_cases heq : st.drop (st.length - a) = (wantP nd).take a
    rotate_left
    · rw [if_neg heq]
      refine ⟨h3, x03, fun α kr kx => ?_⟩
      rw [start6, dF heq, Bool.not_false, cond_true]
    rw [if_pos heq]
    rw [dT heq] at start6
    -- the stack, shorter
    have hfin : ∀ a : Ad, sl.ad = some a → sl.loose = some 1 → h3.own a.id = true := by
      intro b hb hlo1
      rcases ap3.mode with ⟨h1, _⟩ | ⟨_, _, c, h4, h5⟩
      · rw [h1] at hlo1; cases hlo1
      · rw [hb] at h4; cases h4; exact h5
    have apc : App h3 ⟨sl.ad, sl.len - a, sl.cap, sl.loose⟩ 1 (cIs (st.take (st.length - a))) := by
      have q := ap3.rd.to (sl.len - a) sl.cap sl.loose (Nat.sub_le _ _)
      rw [Nat.mul_one] at q
      have e4 : (cIs st).take (sl.len - a) = cIs (st.take (st.length - a)) := by rw [hsl]; have := flat_take (size := 1) (c := cI) (fun _ => rfl) st (st.length - a); rwa [Nat.mul_one] at this
      rw [e4] at q
      refine ⟨q, fun ha => ?_, ?_⟩
      · have hn := ap3.none' ha
        subst hn
        show (⟨none, 0 - a, 0, none⟩ : Sl) = ⟨none, 0, 0, none⟩
        rw [Nat.zero_sub]
      · rcases ap3.mode with ⟨h1, h2⟩ | ⟨h1, h2, b, h3, h4⟩
        · left
          have := hlo h1
          exact ⟨h1, by show sl.cap = sl.len - a; omega⟩
        · exact .inr ⟨h1, by show sl.len - a ≤ sl.cap; omega, b, h3, h4⟩
    obtain ⟨h4, e4, ap4, g4, n4, k4⟩ := app_made (bytes := 8) (more := cI (n : Int)) apc rfl rfl (n := 1) (by decide) (by decide) (by dsimp only; omega)
    have x4 : Ext h₀ h4 := by
      refine ⟨by rw [n4]; have := x03.1; omega, fun i hi => ?_⟩
      rw [k4 i (Nat.lt_of_lt_of_le hi x03.1) (fun _ b hb => by have := ow b hb; omega)]
      exact x03.2 i hi
    have ap4' : App h4 ⟨some ⟨h3.next + 1, 0⟩, sl.len - a + 1, sl.len - a + 1, some 1⟩ 1 (cIs (st.take (st.length - a) ++ [(n : Int)])) := by
      have : cIs (st.take (st.length - a) ++ [(n : Int)]) = cIs (st.take (st.length - a)) ++ cI (n : Int) := by simp [List.flatMap_append]
      rw [this]; exact ap4
    obtain ⟨h', x', rest⟩ := ih (n + 1) (st.take (st.length - a) ++ [(n : Int)]) _ h4 (by omega) (by omega) x4 ap4' (fun b hb => by cases hb; show h₀.next ≤ h3.next + 1; have := x03.1; omega) (fun e => by cases e) (by simp; omega)
    have start7 : ∀ (α : Type) (kr : Bool → M α) (kx : Sl → M α), syntax_Right.u4.l (k + 1) kr kx (j + 1) sl f (l.length : Int) (n : Int) h = syntax_Right.u4.l (k + 1) kr kx j ⟨some ⟨h3.next + 1, 0⟩, sl.len - a + 1, sl.len - a + 1, some 1⟩ f (l.length : Int) ((n + 1 : Nat) : Int) h4 := fun α kr kx => by
      rw [start6, Bool.not_true, cond_false, cut_to ap3.fine rfl (by have := ap3.fine.1; omega)]
      refine (e4 α _).trans ?_
      rw [w64_eq (by omega) (by omega)]
      rfl
    refine ⟨h', x', ?_⟩
    dsimp only
    cases hr : rightL (l.drop (n + 1)) (n + 1) (st.take (st.length - a) ++ [(n : Int)]) with
    | none =>
      rw [hr] at rest
      exact fun α kr kx => (start7 α kr kx).trans (rest α kr kx)
    | some st' =>
      rw [hr] at rest
      obtain ⟨sl', hl', e'⟩ := rest
      exact ⟨sl', hl', fun α kr kx => (start7 α kr kx).trans (e' α kr kx)⟩
theorem right_run (k : Nat) (hk : 70 ≤ k) {f : Sl} {l : List Nd} (h : H) (r : NdR h f l) : ∃ h', (∀ (α : Type) (ret : Bool → M α), syntax_Right.f (k + 1) f ret h = ret (rightF l) h') ∧ Ext h h' := by
  have hfl := nd_slen r
  unfold rightF
  by_cases hl : 1 ≤ l.length ∧ l.length ≤ 60
  rotate_left
  · refine ⟨h, fun α ret => ?_, Ext.refl h⟩
    simp only [syntax_Right.f]
    unfold syntax_Right.u9.f syntax_Right.u1.f
    rw [hfl, dF hl]
    by_cases h1 : (l.length : Int) < 1
    · rw [dT h1]; rfl
    · rw [dF h1, dT (by omega : (60 : Int) < (l.length : Int))]; rfl
  obtain ⟨h', x', rest⟩ := right_loop k (by omega) h r hl.2 hk k 0 [] Sl.nil h (Nat.zero_le _) (by omega) (Ext.refl h) (App.nilSl h 1) (Owned.nil h) (fun _ => rfl) (Nat.le_refl _)
  rw [List.drop_zero] at rest
  have start : ∀ (α : Type) (ret : Bool → M α), syntax_Right.f (k + 1) f ret h = syntax_Right.u4.l k ret (fun y0 => syntax_Right.u7.f k y0 ret) k Sl.nil f (l.length : Int) ((0 : Nat) : Int) h := fun α ret => by
    simp only [syntax_Right.f]
    unfold syntax_Right.u9.f syntax_Right.u1.f
    rw [hfl, dF (by omega : ¬ (l.length : Int) < 1), cond_false, dF (by omega : ¬ (60 : Int) < (l.length : Int)), cond_false]
    unfold syntax_Right.u8.f syntax_Right.u6.f syntax_Right.u2.f syntax_Right.u5.f syntax_Right.u4.f
    dsimp only
    rw [hfl]
    rfl
  refine ⟨h', fun α ret => (start α ret).trans ?_, x'⟩
  rw [dT hl, Bool.true_and]
  cases hr : rightL l 0 [] with
  | none => rw [hr] at rest; exact rest α ret _
  | some st' =>
    rw [hr] at rest
    obtain ⟨sl', hl', e'⟩ := rest
    refine (e' α ret _).trans ?_
    unfold syntax_Right.u7.f
    rw [hl']
    dsimp only
    congr 1
    by_cases h1 : st'.length = 1 <;> simp [h1]
    omega
theorem drop_last1 {st : List Int} {x : Int} : st.drop (st.length - 1) = [x] ↔ st[st.length - 1]? = some x ∧ 1 ≤ st.length := by
  constructor
  · intro h
    have h1 := congrArg (fun l : List Int => l[0]?) h
    simp only [List.getElem?_drop, Nat.add_zero] at h1
    have h2 := congrArg List.length h
    simp only [List.length_drop, List.length_cons, List.length_nil] at h2
    exact ⟨h1, by omega⟩
  · rintro ⟨h1, h2⟩
    rw [List.drop_eq_getElem_cons (by omega : st.length - 1 < st.length), List.drop_of_length_le (by omega)]
    rw [List.getElem?_eq_getElem (by omega)] at h1
    rw [Option.some.inj h1]
theorem drop_last2 {st : List Int} {x y : Int} : st.drop (st.length - 2) = [x, y] ↔ st[st.length - 2]? = some x ∧ st[st.length - 1]? = some y ∧ 2 ≤ st.length := by
  constructor
  · intro h
    have h1 := congrArg (fun l : List Int => l[0]?) h
    have h3 := congrArg (fun l : List Int => l[1]?) h
    simp only [List.getElem?_drop, Nat.add_zero] at h1 h3
    have h2 := congrArg List.length h
    simp only [List.length_drop, List.length_cons, List.length_nil] at h2
    rw [show st.length - 2 + 1 = st.length - 1 by omega] at h3
    exact ⟨h1, h3, by omega⟩
  · rintro ⟨h1, h3, h2⟩
    rw [List.drop_eq_getElem_cons (by omega : st.length - 2 < st.length), List.drop_eq_getElem_cons (by omega : st.length - 2 + 1 < st.length), List.drop_of_length_le (by omega)]
    rw [List.getElem?_eq_getElem (by omega)] at h1 h3
    rw [Option.some.inj h1]
    have : st[st.length - 2 + 1]'(by omega) = st[st.length - 1]'(by omega) := by congr 1; omega
    rw [this, Option.some.inj h3]
theorem stepP_m {st : List Int} {i : Int} {n : Nd} (h : arF n.kind = -1) : stepP st i n = none := by unfold stepP; rw [if_neg (by rw [h]; omega)]
theorem stepP_0 {st : List Int} {i : Int} {n : Nd} (h : arF n.kind = 0) : stepP st i n = if namedF n.kind n.name = true ∧ n.b = 0 ∧ n.a = 0 then some (st ++ [i]) else none := by
  unfold stepP
  rw [h]
  by_cases h1 : namedF n.kind n.name = true <;> by_cases h2 : n.a = 0 <;> by_cases h3 : n.b = 0 <;> simp [h1, h2, h3, wantP]
theorem stepP_1 {st : List Int} {i : Int} {n : Nd} (h : arF n.kind = 1) : stepP st i n = if namedF n.kind n.name = true ∧ 1 ≤ st.length ∧ n.b = 0 ∧ st[st.length - 1]? = some n.a then some (st.take (st.length - 1) ++ [i]) else none := by
  unfold stepP
  rw [h]
  simp only [show (1 : Int).toNat = 1 from rfl, wantP, List.drop_succ_cons, List.drop_zero, List.take_succ_cons, List.take_zero, drop_last1, List.any_cons, List.any_nil, Bool.or_false, decide_eq_true_eq]
  by_cases h1 : namedF n.kind n.name = true <;> by_cases h2 : 1 ≤ st.length <;> by_cases h3 : n.b = 0 <;> by_cases h5 : st[st.length - 1]? = some n.a <;> simp only [h1, h2, h3, h5, and_true, true_and, and_false, false_and, if_true, if_false, ne_eq, not_true_eq_false, not_false_eq_true, Int.reduceLE, Bool.false_eq_true, ite_self] <;> (repeat' split) <;> first | rfl | omega
theorem stepP_2 {st : List Int} {i : Int} {n : Nd} (h : arF n.kind = 2) : stepP st i n = if namedF n.kind n.name = true ∧ 2 ≤ st.length ∧ st[st.length - 1]? = some n.b ∧ st[st.length - 2]? = some n.a then some (st.take (st.length - 2) ++ [i]) else none := by
  unfold stepP
  rw [h]
  simp only [show (2 : Int).toNat = 2 from rfl, wantP, List.drop_succ_cons, List.drop_zero, List.drop_nil, List.take_succ_cons, List.take_zero, List.take_nil, drop_last2, List.any_nil, Bool.false_eq_true, if_false]
  by_cases h1 : namedF n.kind n.name = true <;> by_cases h2 : 2 ≤ st.length <;> by_cases h3 : st[st.length - 1]? = some n.b <;> by_cases h5 : st[st.length - 2]? = some n.a <;> simp only [h1, h2, h3, h5, and_true, true_and, and_false, false_and, if_true, if_false, Int.reduceLE, Bool.false_eq_true, ite_self] <;> (repeat' split) <;> first | rfl | omega
end Go.Ab.S3
namespace Go.Ab.S3
set_option linter.unusedVariables false
set_option linter.unusedSimpArgs false
variable {α : Type} {h : H}
theorem app_copy {x : Sl} {size bytes : Nat} {cs : List V} (r : Rd h x size cs) (hs : 0 < size) (hb : 0 < bytes) (hr : (x.len + x.len / 4 + 512) * bytes ≤ 281474976710656) :
    ∃ sl h', (∀ (α : Type) (K : Sl → M α), new [] (fun a => appRow ⟨some a, 0, 0, none⟩ size bytes x K) h = K sl h') ∧ App h' sl size cs ∧ Ext h h' ∧ Owned h sl ∧ (sl.loose = none → sl.len = 0) ∧ sl.ad ≠ none := by
  have x1 : Ext h (h.push (.cells [] true)) := (Ext.refl h).push _
  have hg : (h.push (.cells [] true)).get h.next = some (.cells [] true) := by rw [push_get, if_pos rfl]
  have ap : App (h.push (.cells [] true)) ⟨some ⟨h.next, 0⟩, 0, 0, none⟩ size [] := by
    refine ⟨Rd.pushed h (by simp), fun ha => (by cases ha), .inl ⟨rfl, rfl⟩⟩
  by_cases h0 : x.len = 0
  · have hc : cs = [] := List.eq_nil_of_length_eq_zero (by rw [r.len, h0, Nat.zero_mul])
    subst hc
    refine ⟨⟨some ⟨h.next, 0⟩, 0, 0, none⟩, h.push (.cells [] true), fun α K => ?_, ap, x1, (fun a ha => by cases ha; exact Nat.le_refl _), fun _ => rfl, fun e => by cases e⟩
    rw [new_run rfl]
    exact app_row0 ap (r.ext x1) h0 K (fun _ a ha => by cases ha; exact ⟨hg, rfl, rfl⟩)
  · obtain ⟨h', e, ap', g, k⟩ := app_row (bytes := bytes) ap (r.ext x1) (by omega) hb (by simpa using hr)
    refine ⟨_, h', fun α K => ?_, by simpa using ap', ?_, (fun a ha => by cases ha; show h.next ≤ h.next + 1; omega), (fun e => by cases e), fun e => by cases e⟩
    · rw [new_run rfl, e α K, Nat.zero_add]
    · exact k.ext x1 (fun a ha => by cases ha; exact Nat.le_refl _)
theorem cIs_snoc (l : List Int) (x : Int) : cIs (l ++ [x]) = cIs l ++ cI x := by simp [List.flatMap_append]
theorem cIs_take (l : List Int) (n : Nat) : (cIs l).take (n * 1) = cIs (l.take n) := flat_take (size := 1) (fun _ => rfl) l n
theorem rstep {sl : Sl} {st : List Int} (ap : App h sl 1 (cIs st)) {a : Nat} (ha : a ≤ st.length) (hl : st.length ≤ 1000) (i : Int) {x y : Int} (hx : x = (st.length : Int)) (hy : y = (a : Int)) :
    ∃ sl' h', (∀ (α : Type) (K : Sl → M α), new [] (fun r => cutSl sl 1 none (some (w64 (x - y))) none fun c => appRow ⟨some r, 0, 0, none⟩ 1 8 c fun d => new [.int .i64 i] fun e => appRow d 1 8 ⟨some e, 1, 1, none⟩ K) h = K sl' h') ∧
      Ext h h' ∧ App h' sl' 1 (cIs (st.take (st.length - a) ++ [i])) ∧ Owned h sl' := by
  subst hx hy
  have hsl := ints_len ap.rd
  have rc : Rd h ⟨sl.ad, sl.len - a, sl.cap, sl.loose⟩ 1 (cIs (st.take (st.length - a))) := by
    have := ap.rd.to (sl.len - a) sl.cap sl.loose (Nat.sub_le _ _)
    rw [cIs_take, hsl] at this
    rwa [hsl]
  obtain ⟨d, h1, e1, ap1, x1, o1, l1, n1⟩ := app_copy (bytes := 8) rc (by decide) (by decide) (by dsimp only; omega)
  have hd := ints_len ap1.rd
  obtain ⟨h2, e2, ap2, g2, n2, k2⟩ := app_made (bytes := 8) (more := cI i) ap1 rfl rfl (n := 1) (by decide) (by decide) (by rw [hd]; simp only [List.length_take]; omega)
  refine ⟨_, h2, fun α K => ?_, ?_, by rw [cIs_snoc]; exact ap2, (fun a ha => by cases ha; show h.next ≤ h1.next + 1; have := x1.1; omega)⟩
  · have ew : w64 ((st.length : Int) - (a : Int)) = ((sl.len - a : Nat) : Int) := by rw [w64_eq (by omega) (by omega)]; omega
    have c1 : ∀ (h' : H) (K : Sl → M α), cutSl sl 1 none (some (w64 ((st.length : Int) - (a : Int)))) none K h' = K ⟨sl.ad, sl.len - a, sl.cap, sl.loose⟩ h' := fun h' K => by
      rw [ew, cut_to ap.fine rfl (by have := ap.fine.1; omega)]
    have e3 := (e1 α (fun d => new [.int .i64 i] fun e => appRow d 1 8 ⟨some e, 1, 1, none⟩ K)).trans (e2 α K)
    rw [new_run rfl] at e3 ⊢
    rw [c1]
    exact e3
  · refine ⟨by rw [n2]; have := x1.1; omega, fun i hi => ?_⟩
    rw [k2 i (Nat.lt_of_lt_of_le hi x1.1) (fun _ a ha => by have := o1 a ha; omega)]
    exact x1.2 i hi
def NL (l : List Nd) : Prop := ∀ (i : Nat) (n : Nd), l[i]? = some n → n.name.length ≤ 4611686018427387900
theorem rright_loop (k : Nat) (hk : 70 ≤ k) {f : Sl} {l : List Nd} (h₀ : H) (r₀ : NdR h₀ f l) (hl : l.length ≤ 60) (hnl : NL l) : ∀ (j n : Nat) (st : List Int) (sl : Sl) (h : H), n ≤ l.length → l.length - n < j → Ext h₀ h → App h sl 1 (cIs st) → st.length ≤ n →
    ∃ h', Ext h₀ h' ∧ (match rightL (l.drop n) n st with
      | none => ∀ (α : Type) (kr : Bool → M α) (kx : Sl → M α), r4Right.u11.l k kr kx j f sl (n : Int) h = kr false h'
      | some st' => ∃ sl' : Sl, sl'.len = st'.length ∧ ∀ (α : Type) (kr : Bool → M α) (kx : Sl → M α), r4Right.u11.l k kr kx j f sl (n : Int) h = kx sl' h') := by
  obtain ⟨k, rfl⟩ : ∃ q, k = q + 1 := ⟨k - 1, by omega⟩
  intro j
  induction j with
  | zero => intro n st sl h hn hj; omega
  | succ j ih =>
    intro n st sl h hn hj x ap hst
    have hfl := nd_slen r₀
    have hsl : sl.len = st.length := ints_len ap.rd
    by_cases hlt : n < l.length
    rotate_left
    · rw [List.drop_of_length_le (by omega)]
      refine ⟨h, x, sl, hsl, fun α kr kx => ?_⟩
      rw [r4Right.u11.l]
      unfold r4Right.u10.f r4Right.u3.f
      rw [hfl, dF (by omega : ¬ (n : Int) < (l.length : Int)), cond_false]
    have hi : l[n]? = some l[n] := List.getElem?_eq_getElem hlt
    rw [List.drop_eq_getElem_cons hlt, rightL]
    generalize l[n] = nd at hi
    have r := r₀.ext x
    have start : ∀ (α : Type) (kr : Bool → M α) (kx : Sl → M α), r4Right.u11.l (k + 1) kr kx (j + 1) f sl (n : Int) h = _ := fun α kr kx => by
      rw [r4Right.u11.l, r4Right.u10.f, r4Right.u3.f, hfl, dT (by omega : (n : Int) < (l.length : Int)), cond_true, r4Right.u9.f, r4Right.u7.f, r4Right.u6.f, r4Right.u4.f, nd_kind r rfl hi, rbelow_run, nd_rd r rfl hi, rnamed_run k (by omega) _ _ _ _ _ (hnl n nd hi)]
    have x1 : Ext h (h.push (.cells [.int .i64 nd.kind, .int .i64 nd.a, .int .i64 nd.b, .str nd.name, .int .i64 nd.pos] true)) := (Ext.refl h).push _
    generalize h.push (.cells [.int .i64 nd.kind, .int .i64 nd.a, .int .i64 nd.b, .str nd.name, .int .i64 nd.pos] true) = h1 at start x1
    have r1 := r.ext x1
    have ap1 := ap.ext x1
    have eb : ∀ (α : Type) (K : Int → M α), idxSl f (n : Int) 5 (fun a => ldI .i64 ((a.add 2).add 0) K) h1 = K nd.b h1 := fun α K => nd_b r1 rfl hi K
    have ea : ∀ (α : Type) (K : Int → M α), idxSl f (n : Int) 5 (fun a => ldI .i64 ((a.add 1).add 0) K) h1 = K nd.a h1 := fun α K => nd_a r1 rfl hi K
    -- wrong: nothing more is done
    have bad : (∀ (α : Type) (kr : Bool → M α) (kx : Sl → M α), r4Right.u11.l (k + 1) kr kx (j + 1) f sl (n : Int) h = kr false h1) → ∃ h', Ext h₀ h' ∧ ∀ (α : Type) (kr : Bool → M α) (kx : Sl → M α), r4Right.u11.l (k + 1) kr kx (j + 1) f sl (n : Int) h = kr false h' := fun e => ⟨h1, x.trans x1, e⟩
    -- right: on
    have good : ∀ (a : Nat) (y : Int), a ≤ st.length → y = (a : Int) → (∀ (α : Type) (kr : Bool → M α) (kx : Sl → M α), r4Right.u11.l (k + 1) kr kx (j + 1) f sl (n : Int) h =
        new [] (fun r => cutSl sl 1 none (some (w64 ((st.length : Int) - y))) none fun c => appRow ⟨some r, 0, 0, none⟩ 1 8 c fun d => new [.int .i64 (n : Int)] fun e => appRow d 1 8 ⟨some e, 1, 1, none⟩ fun z => r4Right.u11.l (k + 1) kr kx j f z (w64 ((n : Int) + 1))) h1) →
        ∃ h', Ext h₀ h' ∧ (match rightL (l.drop (n + 1)) (n + 1) (st.take (st.length - a) ++ [(n : Int)]) with
          | none => ∀ (α : Type) (kr : Bool → M α) (kx : Sl → M α), r4Right.u11.l (k + 1) kr kx (j + 1) f sl (n : Int) h = kr false h'
          | some st' => ∃ sl' : Sl, sl'.len = st'.length ∧ ∀ (α : Type) (kr : Bool → M α) (kx : Sl → M α), r4Right.u11.l (k + 1) kr kx (j + 1) f sl (n : Int) h = kx sl' h') := by
      intro a y ha hy e
      obtain ⟨sl4, h4, e4, x4, ap4, o4⟩ := rstep ap1 ha (by omega) (n : Int) rfl hy
      obtain ⟨h', x', rest⟩ := ih (n + 1) _ sl4 h4 (by omega) (by omega) ((x.trans x1).trans x4) ap4 (by simp; omega)
      have e5 : ∀ (α : Type) (kr : Bool → M α) (kx : Sl → M α), r4Right.u11.l (k + 1) kr kx (j + 1) f sl (n : Int) h = r4Right.u11.l (k + 1) kr kx j f sl4 ((n + 1 : Nat) : Int) h4 := fun α kr kx => by
        rw [e, e4, w64_eq (by omega) (by omega), show ((n : Int) + 1) = ((n + 1 : Nat) : Int) from rfl]
      refine ⟨h', x', ?_⟩
      cases hr : rightL (l.drop (n + 1)) (n + 1) (st.take (st.length - a) ++ [(n : Int)]) with
      | none => rw [hr] at rest; exact fun α kr kx => (e5 α kr kx).trans (rest α kr kx)
      | some st' =>
        rw [hr] at rest
        obtain ⟨sl', hl', e'⟩ := rest
        exact ⟨sl', hl', fun α kr kx => (e5 α kr kx).trans (e' α kr kx)⟩
    rcases ar_cases nd.kind with e | e | e | e
    · rw [stepP_m e]
      refine bad fun α kr kx => ?_
      rw [start, e]
      rfl
    · rw [stepP_0 e]
      by_cases hc : namedF nd.kind nd.name = true ∧ nd.b = 0 ∧ nd.a = 0
      · rw [if_pos hc]
        have := good 0 0 (Nat.zero_le _) rfl (fun α kr kx => by
          rw [start, e, hc.1]
          simp only [↓cT, ↓cF, Bool.not_true, eb, ea, hc.2.1, hc.2.2, Int.reduceLT, decide_true, decide_false, hsl, dF (by omega : ¬ ((st.length : Int) < 0))]
          unfold r4Right.u5.f r4Right.u8.f
          simp only [↓cF, Int.reduceEq, decide_false])
        rwa [Nat.sub_zero, List.take_length] at this
      · rw [if_neg hc]
        refine bad fun α kr kx => ?_
        rw [start, e]
        by_cases h1 : namedF nd.kind nd.name = true <;> by_cases h2 : nd.b = 0 <;> by_cases h3 : nd.a = 0 <;> first
          | (simp only [↓cT, ↓cF, h1, h2, h3, Bool.not_true, Bool.not_false, eb, ea, Int.reduceLT, decide_true, decide_false, hsl, dF (by omega : ¬ ((st.length : Int) < 0))]; done)
          | exact absurd ⟨h1, h2, h3⟩ hc
    · rw [stepP_1 e]
      by_cases hc : namedF nd.kind nd.name = true ∧ 1 ≤ st.length ∧ nd.b = 0 ∧ st[st.length - 1]? = some nd.a
      · rw [if_pos hc]
        have hx : w64 ((st.length : Int) - 1) = ((st.length - 1 : Nat) : Int) := by rw [w64_eq (by omega) (by omega)]; omega
        exact good 1 1 hc.2.1 rfl (fun α kr kx => by
          rw [start, e, hc.1]
          simp only [↓cT, ↓cF, Bool.not_true, eb, ea, hc.2.2.1, Int.reduceLT, decide_true, decide_false, hsl, dF (by omega : ¬ ((st.length : Int) < 1))]
          unfold r4Right.u5.f r4Right.u8.f
          simp only [↓cT, ↓cF, Int.reduceEq, decide_true, decide_false, Bool.not_true, hx, int_rd ap1.rd rfl hc.2.2.2, ea, hsl])
      · rw [if_neg hc]
        refine bad fun α kr kx => ?_
        rw [start, e]
        by_cases h1 : namedF nd.kind nd.name = true
        · by_cases h2 : 1 ≤ st.length
          · have hx : w64 ((st.length : Int) - 1) = ((st.length - 1 : Nat) : Int) := by rw [w64_eq (by omega) (by omega)]; omega
            obtain ⟨v, hv⟩ : ∃ v, st[st.length - 1]? = some v := ⟨_, List.getElem?_eq_getElem (by omega)⟩
            by_cases h3 : nd.b = 0
            · have h4 : ¬ v = nd.a := fun h => hc ⟨h1, h2, h3, by rw [hv, h]⟩
              simp only [↓cT, ↓cF, Bool.not_true, eb, ea, h1, h3, Int.reduceLT, decide_true, decide_false, hsl, dF (by omega : ¬ ((st.length : Int) < 1))]
              unfold r4Right.u5.f r4Right.u8.f
              simp only [↓cT, ↓cF, Int.reduceEq, decide_true, decide_false, Bool.not_true, Bool.not_false, hx, int_rd ap1.rd rfl hv, ea, hsl, h4]
            · simp only [↓cT, ↓cF, Bool.not_true, Bool.not_false, eb, ea, h1, h3, Int.reduceLT, decide_true, decide_false, hsl, dF (by omega : ¬ ((st.length : Int) < 1))]
          · simp only [↓cT, ↓cF, Bool.not_true, Bool.not_false, h1, Int.reduceLT, decide_true, decide_false, hsl, dT (by omega : ((st.length : Int) < 1))]
        · simp only [↓cT, ↓cF, h1, Bool.not_false, Int.reduceLT, decide_false]
    · rw [stepP_2 e]
      by_cases hc : namedF nd.kind nd.name = true ∧ 2 ≤ st.length ∧ st[st.length - 1]? = some nd.b ∧ st[st.length - 2]? = some nd.a
      · rw [if_pos hc]
        have hx : w64 ((st.length : Int) - 1) = ((st.length - 1 : Nat) : Int) := by rw [w64_eq (by omega) (by omega)]; omega
        have hy : w64 ((st.length : Int) - 2) = ((st.length - 2 : Nat) : Int) := by rw [w64_eq (by omega) (by omega)]; omega
        exact good 2 2 hc.2.1 rfl (fun α kr kx => by
          rw [start, e, hc.1]
          simp only [↓cT, ↓cF, Bool.not_true, Int.reduceLT, decide_true, decide_false, hsl, dF (by omega : ¬ ((st.length : Int) < 2))]
          unfold r4Right.u5.f r4Right.u8.f
          simp only [↓cT, ↓cF, Int.reduceEq, decide_true, decide_false, Bool.not_true, hx, hy, int_rd ap1.rd rfl hc.2.2.1, int_rd ap1.rd rfl hc.2.2.2, ea, eb, hsl])
      · rw [if_neg hc]
        refine bad fun α kr kx => ?_
        rw [start, e]
        by_cases h1 : namedF nd.kind nd.name = true
        · by_cases h2 : 2 ≤ st.length
          · have hx : w64 ((st.length : Int) - 1) = ((st.length - 1 : Nat) : Int) := by rw [w64_eq (by omega) (by omega)]; omega
            have hy : w64 ((st.length : Int) - 2) = ((st.length - 2 : Nat) : Int) := by rw [w64_eq (by omega) (by omega)]; omega
            obtain ⟨v, hv⟩ : ∃ v, st[st.length - 1]? = some v := ⟨_, List.getElem?_eq_getElem (by omega)⟩
            obtain ⟨u, hu⟩ : ∃ v, st[st.length - 2]? = some v := ⟨_, List.getElem?_eq_getElem (by omega)⟩
            simp only [↓cT, ↓cF, Bool.not_true, h1, Int.reduceLT, decide_true, decide_false, hsl, dF (by omega : ¬ ((st.length : Int) < 2))]
            unfold r4Right.u5.f r4Right.u8.f
            by_cases h3 : v = nd.b
            · have h4 : ¬ u = nd.a := fun h => hc ⟨h1, h2, by rw [hv, h3], by rw [hu, h]⟩
              simp only [↓cT, ↓cF, Int.reduceEq, decide_true, decide_false, Bool.not_true, Bool.not_false, hx, hy, int_rd ap1.rd rfl hv, int_rd ap1.rd rfl hu, ea, eb, hsl, h3, h4]
            · simp only [↓cT, ↓cF, Int.reduceEq, decide_true, decide_false, Bool.not_true, Bool.not_false, hx, hy, int_rd ap1.rd rfl hv, ea, eb, hsl, h3]
          · simp only [↓cT, ↓cF, Bool.not_true, Bool.not_false, h1, Int.reduceLT, decide_true, decide_false, hsl, dT (by omega : ((st.length : Int) < 2))]
        · simp only [↓cT, ↓cF, h1, Bool.not_false, Int.reduceLT, decide_false]
theorem rright_run (k : Nat) (hk : 70 ≤ k) {f : Sl} {l : List Nd} (hnl : NL l) (h : H) (r : NdR h f l) : ∃ h', (∀ (α : Type) (ret : Bool → M α), r4Right.f (k + 1) f ret h = ret (rightF l) h') ∧ Ext h h' := by
  have hfl := nd_slen r
  unfold rightF
  by_cases hl : 1 ≤ l.length ∧ l.length ≤ 60
  rotate_left
  · refine ⟨h, fun α ret => ?_, Ext.refl h⟩
    simp only [r4Right.f]
    unfold r4Right.u16.f r4Right.u1.f
    rw [hfl, dF hl]
    by_cases h1 : (l.length : Int) < 1
    · rw [dT h1]; rfl
    · rw [dF h1, dT (by omega : (60 : Int) < (l.length : Int))]; rfl
  obtain ⟨h', x', rest⟩ := rright_loop k hk h r hl.2 hnl k 0 [] Sl.nil h (Nat.zero_le _) (by omega) (Ext.refl h) (App.nilSl h 1) (Nat.le_refl _)
  rw [List.drop_zero] at rest
  have start : ∀ (α : Type) (ret : Bool → M α), r4Right.f (k + 1) f ret h = r4Right.u11.l k ret (fun y0 => r4Right.u14.f k y0 ret) k f Sl.nil ((0 : Nat) : Int) h := fun α ret => by
    simp only [r4Right.f]
    unfold r4Right.u16.f r4Right.u1.f
    rw [hfl, dF (by omega : ¬ (l.length : Int) < 1), cond_false, dF (by omega : ¬ (60 : Int) < (l.length : Int)), cond_false]
    unfold r4Right.u15.f r4Right.u13.f r4Right.u2.f r4Right.u12.f r4Right.u11.f
    rfl
  refine ⟨h', fun α ret => (start α ret).trans ?_, x'⟩
  rw [dT hl, Bool.true_and]
  cases hr : rightL l 0 [] with
  | none => rw [hr] at rest; exact rest α ret _
  | some st' =>
    rw [hr] at rest
    obtain ⟨sl', hl', e'⟩ := rest
    refine (e' α ret _).trans ?_
    unfold r4Right.u14.f
    rw [hl']
    dsimp only
    congr 1
    by_cases h1 : st'.length = 1 <;> simp [h1]
    omega
end Go.Ab.S3
namespace Go.Ab.S3
set_option linter.unusedVariables false
set_option linter.unusedSimpArgs false
inductive Tr where
  | leaf (k : Int) (s : List UInt8) (p : Int)
  | un (k : Int) (s : List UInt8) (p : Int) (a : Tr)
  | bin (k : Int) (s : List UInt8) (p : Int) (a b : Tr)
  deriving DecidableEq, Inhabited
def Tr.size : Tr → Nat
  | .leaf _ _ _ => 1
  | .un _ _ _ a => a.size + 1
  | .bin _ _ _ a b => a.size + b.size + 1
theorem Tr.pos : ∀ t : Tr, 1 ≤ t.size
  | .leaf _ _ _ => Nat.le_refl _
  | .un _ _ _ a => Nat.succ_le_succ (Nat.zero_le _)
  | .bin _ _ _ a b => Nat.succ_le_succ (Nat.zero_le _)
def Tr.node : Tr → Nat → Nd
  | .leaf k s p, _ => ⟨k, 0, 0, s, p⟩
  | .un k s p a, base => ⟨k, ((base + a.size - 1 : Nat) : Int), 0, s, p⟩
  | .bin k s p a b, base => ⟨k, ((base + a.size - 1 : Nat) : Int), ((base + a.size + b.size - 1 : Nat) : Int), s, p⟩
def Tr.flat : Tr → Nat → List Nd
  | .leaf k s p, base => [(Tr.leaf k s p).node base]
  | .un k s p a, base => a.flat base ++ [(Tr.un k s p a).node base]
  | .bin k s p a b, base => a.flat base ++ (b.flat (base + a.size) ++ [(Tr.bin k s p a b).node base])
def Tr.ok : Tr → Bool
  | .leaf k s _ => decide (arF k = 0) && namedF k s
  | .un k s _ a => decide (arF k = 1) && namedF k s && a.ok
  | .bin k s _ a b => decide (arF k = 2) && namedF k s && a.ok && b.ok
theorem flat_length : ∀ (t : Tr) (base : Nat), (t.flat base).length = t.size
  | .leaf _ _ _, _ => rfl
  | .un _ _ _ a, base => by simp [Tr.flat, Tr.size, flat_length a]
  | .bin _ _ _ a b, base => by simp [Tr.flat, Tr.size, flat_length a, flat_length b]; omega
def flats : List Tr → Nat → List Nd
  | [], _ => []
  | t :: ts, base => t.flat base ++ flats ts (base + t.size)
def sizes (ts : List Tr) : Nat := (ts.map Tr.size).sum
def roots : List Tr → Nat → List Int
  | [], _ => []
  | t :: ts, base => ((base + t.size - 1 : Nat) : Int) :: roots ts (base + t.size)
theorem sizes_cons (t : Tr) (ts : List Tr) : sizes (t :: ts) = t.size + sizes ts := by simp [sizes]
theorem sizes_append (ts us : List Tr) : sizes (ts ++ us) = sizes ts + sizes us := by simp [sizes]
theorem flats_append : ∀ (ts us : List Tr) (base : Nat), flats (ts ++ us) base = flats ts base ++ flats us (base + sizes ts)
  | [], us, base => by simp [flats, sizes]
  | t :: ts, us, base => by
    rw [List.cons_append, flats, flats, flats_append ts us, sizes_cons, List.append_assoc, Nat.add_assoc]
theorem roots_append : ∀ (ts us : List Tr) (base : Nat), roots (ts ++ us) base = roots ts base ++ roots us (base + sizes ts)
  | [], us, base => by simp [roots, sizes]
  | t :: ts, us, base => by
    rw [List.cons_append, roots, roots, roots_append ts us, sizes_cons, List.cons_append, Nat.add_assoc]
theorem roots_length : ∀ (ts : List Tr) (base : Nat), (roots ts base).length = ts.length
  | [], _ => rfl
  | t :: ts, base => by simp [roots, roots_length ts]
theorem snoc_of {β : Type} : ∀ (l : List β), 1 ≤ l.length → ∃ (m : List β) (x : β), l = m ++ [x]
  | [], h => by simp at h
  | [x], _ => ⟨[], x, rfl⟩
  | x :: y :: l, _ => by
    obtain ⟨m, z, h⟩ := snoc_of (y :: l) (by simp)
    exact ⟨x :: m, z, by rw [h]; rfl⟩
theorem right_trees : ∀ (l : List Nd) (ts : List Tr) (st : List Int), (∀ t ∈ ts, t.ok = true) → rightL l (sizes ts) (roots ts 0) = some st →
    ∃ us : List Tr, (∀ t ∈ us, t.ok = true) ∧ flats us 0 = flats ts 0 ++ l ∧ st = roots us 0
  | [], ts, st, hok, h => by
    simp only [rightL, Option.some.injEq] at h
    exact ⟨ts, hok, by simp, h.symm⟩
  | n :: l, ts, st, hok, h => by
    rw [rightL] at h
    cases hs : stepP (roots ts 0) (sizes ts : Nat) n with
    | none => rw [hs] at h; cases h
    | some st' =>
      rw [hs] at h
      dsimp only at h
      have hex : ∃ vs : List Tr, (∀ t ∈ vs, t.ok = true) ∧ st' = roots vs 0 ∧ sizes vs = sizes ts + 1 ∧ flats vs 0 = flats ts 0 ++ [n] := by
        rcases ar_cases n.kind with e | e | e | e
        · rw [stepP_m e] at hs; cases hs
        · rw [stepP_0 e] at hs
          split at hs
          case isFalse => cases hs
          case isTrue hc =>
          obtain ⟨c1, c2, c3⟩ := hc
          simp only [Option.some.injEq] at hs
          subst hs
          refine ⟨ts ++ [.leaf n.kind n.name n.pos], fun t ht => ?_, ?_, ?_, ?_⟩
          · rcases List.mem_append.1 ht with ht | ht
            · exact hok t ht
            · rw [List.mem_singleton.1 ht]; simp [Tr.ok, e, c1]
          · simp [roots_append, roots, Tr.size]
          · simp [sizes_append, sizes, Tr.size]
          · rw [flats_append]
            congr 1
            cases n
            simp_all [flats, Tr.flat, Tr.node]
        · rw [stepP_1 e] at hs
          split at hs
          case isFalse => cases hs
          case isTrue hc =>
          obtain ⟨c1, c2, c3, c4⟩ := hc
          simp only [Option.some.injEq] at hs
          subst hs
          rw [roots_length] at c2
          obtain ⟨vs, a, rfl⟩ := snoc_of ts c2
          have ha := Tr.pos a
          rw [roots_append, roots, roots, Nat.zero_add] at c4 ⊢
          have hl : (roots vs 0 ++ [((sizes vs + a.size - 1 : Nat) : Int)]).length - 1 = (roots vs 0).length := by simp
          rw [hl, List.getElem?_append_right (Nat.le_refl _), Nat.sub_self] at c4
          simp only [List.getElem?_cons_zero, Option.some.injEq] at c4
          refine ⟨vs ++ [.un n.kind n.name n.pos a], fun t ht => ?_, ?_, ?_, ?_⟩
          · rcases List.mem_append.1 ht with ht | ht
            · exact hok t (List.mem_append_left _ ht)
            · rw [List.mem_singleton.1 ht]
              have := hok a (List.mem_append_right _ (List.mem_singleton.2 rfl))
              simp [Tr.ok, e, c1, this]
          · rw [hl, List.take_left, roots_append, Nat.zero_add, roots, roots, sizes_append]
            simp [sizes, Tr.size]
          · simp [sizes_append, sizes, Tr.size]; omega
          · rw [flats_append, flats_append, List.append_assoc]
            congr 1
            simp only [flats, Tr.flat, List.append_nil, Nat.zero_add]
            congr 1
            cases n
            simp_all [Tr.node]
        · rw [stepP_2 e] at hs
          split at hs
          case isFalse => cases hs
          case isTrue hc =>
          obtain ⟨c1, c2, c3, c4⟩ := hc
          simp only [Option.some.injEq] at hs
          subst hs
          rw [roots_length] at c2
          obtain ⟨ws, b, rfl⟩ := snoc_of ts (by omega)
          obtain ⟨vs, a, rfl⟩ := snoc_of ws (by simp at c2; omega)
          have ha := Tr.pos a
          have hb := Tr.pos b
          have er : roots (vs ++ [a] ++ [b]) 0 = roots vs 0 ++ [((sizes vs + a.size - 1 : Nat) : Int), ((sizes vs + a.size + b.size - 1 : Nat) : Int)] := by
            rw [List.append_assoc, roots_append]
            simp [roots]
          rw [er] at c3 c4 ⊢
          have h1 : (roots vs 0 ++ [((sizes vs + a.size - 1 : Nat) : Int), ((sizes vs + a.size + b.size - 1 : Nat) : Int)]).length - 1 = (roots vs 0).length + 1 := by simp
          have h2 : (roots vs 0 ++ [((sizes vs + a.size - 1 : Nat) : Int), ((sizes vs + a.size + b.size - 1 : Nat) : Int)]).length - 2 = (roots vs 0).length := by simp
          rw [h1, List.getElem?_append_right (by omega), show (roots vs 0).length + 1 - (roots vs 0).length = 1 by omega] at c3
          rw [h2, List.getElem?_append_right (Nat.le_refl _), Nat.sub_self] at c4
          simp only [List.getElem?_cons_zero, List.getElem?_cons_succ, Option.some.injEq] at c3 c4
          refine ⟨vs ++ [.bin n.kind n.name n.pos a b], fun t ht => ?_, ?_, ?_, ?_⟩
          · rcases List.mem_append.1 ht with ht | ht
            · exact hok t (List.mem_append_left _ (List.mem_append_left _ ht))
            · rw [List.mem_singleton.1 ht]
              have g1 := hok a (List.mem_append_left _ (List.mem_append_right _ (List.mem_singleton.2 rfl)))
              have g2 := hok b (List.mem_append_right _ (List.mem_singleton.2 rfl))
              simp [Tr.ok, e, c1, g1, g2]
          · rw [h2, List.take_left, roots_append, Nat.zero_add, roots, roots, sizes_append, sizes_append]
            simp [sizes, Tr.size]
            omega
          · simp [sizes_append, sizes, Tr.size]; omega
          · rw [List.append_assoc, flats_append, flats_append, List.append_assoc]
            congr 1
            simp only [List.cons_append, List.nil_append, flats, Tr.flat, List.append_nil, Nat.zero_add, List.append_assoc]
            congr 2
            cases n
            simp_all [Tr.node]
      obtain ⟨vs, v1, v2, v3, v4⟩ := hex
      subst v2
      rw [← v3] at h
      obtain ⟨us, u1, u2, u3⟩ := right_trees l vs st v1 h
      exact ⟨us, u1, by rw [u2, v4, List.append_assoc]; rfl, u3⟩
theorem right_flat : ∀ (t : Tr) (base : Nat) (rest : List Nd) (st : List Int), t.ok = true → rightL (t.flat base ++ rest) base st = rightL rest (base + t.size) (st ++ [((base + t.size - 1 : Nat) : Int)])
  | .leaf k s p, base, rest, st, h => by
    simp only [Tr.ok, Bool.and_eq_true, decide_eq_true_eq] at h
    have e : arF (Tr.node (.leaf k s p) base).kind = 0 := h.1
    simp only [Tr.flat, List.cons_append, List.nil_append, rightL]
    rw [stepP_0 e, if_pos ⟨h.2, rfl, rfl⟩]
    simp [Tr.size]
  | .un k s p a, base, rest, st, h => by
    simp only [Tr.ok, Bool.and_eq_true, decide_eq_true_eq] at h
    have e : arF (Tr.node (.un k s p a) base).kind = 1 := h.1.1
    simp only [Tr.flat, List.append_assoc, List.cons_append, List.nil_append]
    rw [right_flat a base _ st h.2, rightL, stepP_1 e, if_pos ⟨h.1.2, by simp, rfl, by simp [Tr.node]⟩]
    have := Tr.pos a
    simp [Tr.size]
    rw [show base + a.size + 1 = base + (a.size + 1) by omega]
  | .bin k s p a b, base, rest, st, h => by
    simp only [Tr.ok, Bool.and_eq_true, decide_eq_true_eq] at h
    have e : arF (Tr.node (.bin k s p a b) base).kind = 2 := h.1.1.1
    simp only [Tr.flat, List.append_assoc, List.cons_append, List.nil_append]
    rw [right_flat a base _ st h.1.2, right_flat b (base + a.size) _ _ h.2, rightL, stepP_2 e, if_pos ⟨h.1.1.2, by simp, by simp [Tr.node], by simp [Tr.node]⟩]
    have := Tr.pos a
    have := Tr.pos b
    simp [Tr.size]
    rw [show base + a.size + b.size + 1 = base + (a.size + b.size + 1) by omega, Int.add_assoc]
theorem right_iff (l : List Nd) : rightF l = true ↔ ∃ t : Tr, t.ok = true ∧ l = t.flat 0 ∧ t.size ≤ 60 := by
  unfold rightF
  constructor
  · intro h
    simp only [Bool.and_eq_true, decide_eq_true_eq] at h
    obtain ⟨⟨h1, h2⟩, h3⟩ := h
    cases hr : rightL l 0 [] with
    | none => rw [hr] at h3; cases h3
    | some st =>
      rw [hr] at h3
      obtain ⟨us, u1, u2, u3⟩ := right_trees l [] st (fun t ht => by cases ht) hr
      have h3' : st.length = 1 := of_decide_eq_true h3
      rw [u3, roots_length] at h3'
      match us, h3' with
      | [t], _ =>
        simp only [flats, List.append_nil, List.nil_append] at u2
        exact ⟨t, u1 t List.mem_cons_self, u2.symm, by rw [← flat_length t 0, u2]; exact h2⟩
  · rintro ⟨t, ht, rfl, hs⟩
    have h1 := right_flat t 0 [] [] ht
    rw [List.append_nil] at h1
    rw [h1, flat_length]
    have := Tr.pos t
    simp [rightL]
    omega
end Go.Ab.S3
