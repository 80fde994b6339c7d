import Derived.Test.YtkfoohgkbafafaaAb20
import Derived.Test.YtkfoohgkbafafaaS3x
namespace Go.Ab.S3
set_option linter.unusedVariables false
set_option linter.unusedSimpArgs false
variable {α : Type} {h : H}
theorem dT {p : Prop} [Decidable p] (h : p) : decide p = true := decide_eq_true h
theorem dF {p : Prop} [Decidable p] (h : ¬ p) : decide p = false := decide_eq_false h
theorem cT {β : Type} {c : Bool} {a b : β} (h : c = true) : cond c a b = a := by subst h; rfl
theorem cF {β : Type} {c : Bool} {a b : β} (h : c = false) : cond c a b = b := by subst h; rfl
/-! ### nodes -/
structure Nd where
  kind : Int
  a : Int
  b : Int
  name : List UInt8
  pos : Int
  deriving DecidableEq, Inhabited
def Nd.cells (n : Nd) : List V := [.int .i64 n.kind, .int .i64 n.a, .int .i64 n.b, .str n.name, .int .i64 n.pos]
theorem Nd.len (n : Nd) : n.cells.length = 5 := rfl
abbrev cN (l : List Nd) : List V := l.flatMap Nd.cells
/-- a slice of nodes -/
abbrev NdR (h : H) (s : Sl) (l : List Nd) : Prop := Rd h s 5 (cN l)
theorem nd_slen {s : Sl} {l : List Nd} (r : NdR h s l) : s.len = l.length := slen Nd.len (by decide) r
theorem nd_cell {s : Sl} {l : List Nd} (r : NdR h s l) {i : Nat} {n : Nd} (hi : l[i]? = some n) {j : Nat} {v : V} (hv : n.cells[j]? = some v) (hj : j < 5) : (cN l)[i * 5 + j]? = some v :=
  (flat_get Nd.len l i n j hi hj).trans hv
theorem nd_idx {s : Sl} {l : List Nd} (r : NdR h s l) {x : Int} {i : Nat} {n : Nd} (hx : x = (i : Int)) (hi : l[i]? = some n) (K : Ad → M α) : idxSl s x 5 K h = K (s.at (i * 5)) h :=
  idx_run r hx (by rw [nd_slen r]; exact get_lt hi) K
theorem nd_kind {s : Sl} {l : List Nd} (r : NdR h s l) {x : Int} {i : Nat} {n : Nd} (hx : x = (i : Int)) (hi : l[i]? = some n) (K : Int → M α) : idxSl s x 5 (fun a => ldI .i64 ((a.add 0).add 0) K) h = K n.kind h := by
  rw [nd_idx r hx hi, at_add, at_add]; exact r.ldI (nd_cell r hi (j := 0) rfl (by decide)) K
theorem nd_a {s : Sl} {l : List Nd} (r : NdR h s l) {x : Int} {i : Nat} {n : Nd} (hx : x = (i : Int)) (hi : l[i]? = some n) (K : Int → M α) : idxSl s x 5 (fun a => ldI .i64 ((a.add 1).add 0) K) h = K n.a h := by
  rw [nd_idx r hx hi, at_add, at_add]; exact r.ldI (nd_cell r hi (j := 1) rfl (by decide)) K
theorem nd_b {s : Sl} {l : List Nd} (r : NdR h s l) {x : Int} {i : Nat} {n : Nd} (hx : x = (i : Int)) (hi : l[i]? = some n) (K : Int → M α) : idxSl s x 5 (fun a => ldI .i64 ((a.add 2).add 0) K) h = K n.b h := by
  rw [nd_idx r hx hi, at_add, at_add]; exact r.ldI (nd_cell r hi (j := 2) rfl (by decide)) K
theorem nd_name {s : Sl} {l : List Nd} (r : NdR h s l) {x : Int} {i : Nat} {n : Nd} (hx : x = (i : Int)) (hi : l[i]? = some n) (K : List UInt8 → M α) : idxSl s x 5 (fun a => ldStr ((a.add 3).add 0) K) h = K n.name h := by
  rw [nd_idx r hx hi, at_add, at_add]; exact r.ldStr (nd_cell r hi (j := 3) rfl (by decide)) K
theorem nd_pos {s : Sl} {l : List Nd} (r : NdR h s l) {x : Int} {i : Nat} {n : Nd} (hx : x = (i : Int)) (hi : l[i]? = some n) (K : Int → M α) : idxSl s x 5 (fun a => ldI .i64 ((a.add 4).add 0) K) h = K n.pos h := by
  rw [nd_idx r hx hi, at_add, at_add]; exact r.ldI (nd_cell r hi (j := 4) rfl (by decide)) K
theorem nd_rd {s : Sl} {l : List Nd} (r : NdR h s l) {x : Int} {i : Nat} {n : Nd} (hx : x = (i : Int)) (hi : l[i]? = some n) (K : Int → Int → Int → List UInt8 → Int → M α) :
    idxSl s x 5 (fun a => ldI .i64 (a.add 0) fun x0 => ldI .i64 (a.add 1) fun x1 => ldI .i64 (a.add 2) fun x2 => ldStr (a.add 3) fun x3 => ldI .i64 (a.add 4) fun x4 => K x0 x1 x2 x3 x4) h = K n.kind n.a n.b n.name n.pos h := by
  rw [nd_idx r hx hi]
  simp only [at_add]
  rw [r.ldI (nd_cell r hi (j := 0) rfl (by decide)), r.ldI (nd_cell r hi (j := 1) rfl (by decide)), r.ldI (nd_cell r hi (j := 2) rfl (by decide)), r.ldStr (nd_cell r hi (j := 3) rfl (by decide)), r.ldI (nd_cell r hi (j := 4) rfl (by decide))]
/-- a node of one's own, laid down on the way -/
theorem nd_copy {x0 x1 x2 x4 : Int} {x3 : List UInt8} {z0 z1 z2 z4 : Int} {z3 : List UInt8} (K : Ad → M α) :
    new [.int .i64 z0, .int .i64 z1, .int .i64 z2, .str z3, .int .i64 z4] (fun n => st1 (n.add 0) (.int .i64 x0) <| st1 (n.add 1) (.int .i64 x1) <| st1 (n.add 2) (.int .i64 x2) <| st1 (n.add 3) (.str x3) <| st1 (n.add 4) (.int .i64 x4) <| K n) h =
      K ⟨h.next, 0⟩ (h.push (.cells [.int .i64 x0, .int .i64 x1, .int .i64 x2, .str x3, .int .i64 x4] true)) := by
  rw [new_run rfl]
  simp only [add_mk, Nat.zero_add]
  rw [st1_new rfl (by simp), st1_new rfl (by simp), st1_new rfl (by simp), st1_new rfl (by simp), st1_new rfl (by simp)]
  rfl
theorem n5_0 {x0 x1 x2 x4 : Int} {x3 : List UInt8} (o : Bool) (K : Int → M α) : ldI .i64 (((⟨h.next, 0⟩ : Ad).add 0).add 0) K (h.push (.cells [.int .i64 x0, .int .i64 x1, .int .i64 x2, .str x3, .int .i64 x4] o)) = K x0 (h.push (.cells [.int .i64 x0, .int .i64 x1, .int .i64 x2, .str x3, .int .i64 x4] o)) := ldI_run (by simp only [add_mk]; rw [cell_new]; rfl)
theorem n5_1 {x0 x1 x2 x4 : Int} {x3 : List UInt8} (o : Bool) (K : Int → M α) : ldI .i64 (((⟨h.next, 0⟩ : Ad).add 1).add 0) K (h.push (.cells [.int .i64 x0, .int .i64 x1, .int .i64 x2, .str x3, .int .i64 x4] o)) = K x1 (h.push (.cells [.int .i64 x0, .int .i64 x1, .int .i64 x2, .str x3, .int .i64 x4] o)) := ldI_run (by simp only [add_mk]; rw [cell_new]; rfl)
theorem n5_2 {x0 x1 x2 x4 : Int} {x3 : List UInt8} (o : Bool) (K : Int → M α) : ldI .i64 (((⟨h.next, 0⟩ : Ad).add 2).add 0) K (h.push (.cells [.int .i64 x0, .int .i64 x1, .int .i64 x2, .str x3, .int .i64 x4] o)) = K x2 (h.push (.cells [.int .i64 x0, .int .i64 x1, .int .i64 x2, .str x3, .int .i64 x4] o)) := ldI_run (by simp only [add_mk]; rw [cell_new]; rfl)
theorem n5_3 {x0 x1 x2 x4 : Int} {x3 : List UInt8} (o : Bool) (K : List UInt8 → M α) : ldStr (((⟨h.next, 0⟩ : Ad).add 3).add 0) K (h.push (.cells [.int .i64 x0, .int .i64 x1, .int .i64 x2, .str x3, .int .i64 x4] o)) = K x3 (h.push (.cells [.int .i64 x0, .int .i64 x1, .int .i64 x2, .str x3, .int .i64 x4] o)) := ldStr_run (by simp only [add_mk]; rw [cell_new]; rfl)
theorem n5_4 {x0 x1 x2 x4 : Int} {x3 : List UInt8} (o : Bool) (K : Int → M α) : ldI .i64 (((⟨h.next, 0⟩ : Ad).add 4).add 0) K (h.push (.cells [.int .i64 x0, .int .i64 x1, .int .i64 x2, .str x3, .int .i64 x4] o)) = K x4 (h.push (.cells [.int .i64 x0, .int .i64 x1, .int .i64 x2, .str x3, .int .i64 x4] o)) := ldI_run (by simp only [add_mk]; rw [cell_new]; rfl)
/-- the whole of it -/
theorem n5_all {x0 x1 x2 x4 : Int} {x3 : List UInt8} (o : Bool) (K : Int → Int → Int → List UInt8 → Int → M α) :
    (ldI .i64 ((⟨h.next, 0⟩ : Ad).add 0) fun y0 => ldI .i64 ((⟨h.next, 0⟩ : Ad).add 1) fun y1 => ldI .i64 ((⟨h.next, 0⟩ : Ad).add 2) fun y2 => ldStr ((⟨h.next, 0⟩ : Ad).add 3) fun y3 => ldI .i64 ((⟨h.next, 0⟩ : Ad).add 4) fun y4 => K y0 y1 y2 y3 y4) (h.push (.cells [.int .i64 x0, .int .i64 x1, .int .i64 x2, .str x3, .int .i64 x4] o)) =
      K x0 x1 x2 x3 x4 (h.push (.cells [.int .i64 x0, .int .i64 x1, .int .i64 x2, .str x3, .int .i64 x4] o)) := by
  simp only [add_mk]
  rw [ldI_run (by rw [cell_new]; rfl), ldI_run (by rw [cell_new]; rfl), ldI_run (by rw [cell_new]; rfl), ldStr_run (by rw [cell_new]; rfl), ldI_run (by rw [cell_new]; rfl)]

/-! ### names -/
/-- a name that begins within some letters -/
def speltF (lo hi : Int) : List UInt8 → Bool
  | [] => false
  | c :: r => decide (r.length < 8) && decide (lo ≤ (c.toNat : Int)) && decide ((c.toNat : Int) ≤ hi) && (c :: r).all innerB
def wordsF (s : List UInt8) : Bool := decide (s = [116, 116]) || decide (s = [102, 102]) || decide (s = [109, 117]) || decide (s = [110, 117])
def nameF (s : List UInt8) : Bool := speltF 97 122 s && !wordsF s
def varF (s : List UInt8) : Bool := speltF 65 90 s
theorem spelt_byte : ∀ n : Nat, n < 256 → (innerB (UInt8.ofNat n)) = ((!decide (bits .or .u8 (n : Int) 32 < 97) && !decide (122 < bits .or .u8 (n : Int) 32)) || ((!decide ((n : Int) < 48) && !decide (57 < (n : Int))) || decide ((n : Int) = 95))) := by
  decide +kernel
theorem u8_nat (c : UInt8) : UInt8.ofNat c.toNat = c := by simp
theorem spelt_loop (k : Nat) {s : List UInt8} (hs : s.length ≤ 8) : ∀ (j n : Nat), n ≤ s.length → s.length - n < j → ∀ (kr : Bool → M α) (kx : M α),
    syntax_spelt.u4.l k kr kx j s (s.length : Int) (n : Int) h = if (s.drop n).all innerB then kx h else kr false h := by
  intro j
  induction j with
  | zero => intro n hn hj; omega
  | succ j ih =>
    intro n hn hj kr kx
    rw [syntax_spelt.u4.l, syntax_spelt.u3.f]
    by_cases hlt : n < s.length
    · have hc : s[n]? = some s[n] := List.getElem?_eq_getElem hlt
      rw [show decide ((n : Int) < (s.length : Int)) = true by simpa using hlt, cond_true, idxStr_run rfl hc, drop_get hlt, List.all_cons]
      have hb := spelt_byte s[n].toNat s[n].toNat_lt
      rw [u8_nat] at hb
      have next := ih (n + 1) (by omega) (by omega) kr kx
      rw [w64_eq (by omega) (by omega), show ((n : Int) + 1) = ((n + 1 : Nat) : Int) by omega]
      rw [hb]
      generalize decide (bits .or .u8 (s[n].toNat : Int) 32 < 97) = b1
      generalize decide (122 < bits .or .u8 (s[n].toNat : Int) 32) = b2
      generalize decide ((s[n].toNat : Int) < 48) = b3
      generalize decide (57 < (s[n].toNat : Int)) = b4
      generalize decide ((s[n].toNat : Int) = 95) = b5
      cases b1 <;> cases b2 <;> cases b3 <;> cases b4 <;> cases b5 <;> first | exact next | rfl
    · rw [show decide ((n : Int) < (s.length : Int)) = false by simpa using hlt, cond_false, List.drop_of_length_le (by omega)]
      simp
theorem spelt_run (k : Nat) (hk : 10 ≤ k) (s : List UInt8) (lo hi : Int) (ret : Bool → M α) : syntax_spelt.f (k + 1) s lo hi ret h = ret (speltF lo hi s) h := by
  simp only [syntax_spelt.f]
  unfold syntax_spelt.u9.f syntax_spelt.u1.f
  cases s with
  | nil => simp [speltF]
  | cons c r =>
    have hc : (c :: r)[0]? = some c := rfl
    rw [show decide (((c :: r).length : Int) < 1) = false by simp; omega, cond_false]
    simp only [speltF]
    by_cases h8 : r.length < 8
    · rw [show decide (8 < ((c :: r).length : Int)) = false by simp; omega, cond_false, idxStr_run (i := 0) (n := 0) rfl hc, decide_eq_true h8]
      by_cases h1 : lo ≤ (c.toNat : Int)
      · rw [show decide ((c.toNat : Int) < lo) = false by simpa using h1, cond_false, idxStr_run (i := 0) (n := 0) rfl hc, decide_eq_true h1]
        by_cases h2 : (c.toNat : Int) ≤ hi
        · rw [show decide (hi < (c.toNat : Int)) = false by simpa using h2, cond_false, decide_eq_true h2]
          unfold syntax_spelt.u8.f syntax_spelt.u6.f syntax_spelt.u2.f syntax_spelt.u5.f syntax_spelt.u4.f
          refine (spelt_loop k (s := c :: r) (by simp; omega) k 0 (Nat.zero_le _) (by simp; omega) _ _).trans ?_
          rw [List.drop_zero]
          cases (c :: r).all innerB <;> rfl
        · rw [dT (by omega : hi < (c.toNat : Int)), dF h2]; rfl
      · rw [dT (by omega : (c.toNat : Int) < lo), dF h1]; rfl
    · simp [h8]
      rw [show decide (8 < (r.length : Int) + 1) = true by simp; omega, cond_true]
theorem word_run (k : Nat) (s : List UInt8) (ret : Bool → M α) : syntax_word.f (k + 1) s ret h = ret (wordsF s) h := by
  simp only [syntax_word.f]
  unfold syntax_word.u1.f wordsF
  generalize decide (s = [116, 116]) = b1
  generalize decide (s = [102, 102]) = b2
  generalize decide (s = [109, 117]) = b3
  generalize decide (s = [110, 117]) = b4
  cases b1 <;> cases b2 <;> cases b3 <;> rfl
theorem sname_run (k : Nat) (hk : 11 ≤ k) (s : List UInt8) (ret : Bool → M α) : syntax_name.f (k + 1) s ret h = ret (nameF s) h := by
  obtain ⟨k, rfl⟩ : ∃ q, k = q + 1 := ⟨k - 1, by omega⟩
  simp only [syntax_name.f]
  unfold syntax_name.u1.f nameF
  rw [spelt_run k (by omega)]
  cases speltF 97 122 s
  · rfl
  · rw [cond_true, word_run]; rfl
theorem svar_run (k : Nat) (hk : 11 ≤ k) (s : List UInt8) (ret : Bool → M α) : syntax_variable.f (k + 1) s ret h = ret (varF s) h := by
  obtain ⟨k, rfl⟩ : ∃ q, k = q + 1 := ⟨k - 1, by omega⟩
  simp only [syntax_variable.f]
  unfold syntax_variable.u1.f varF
  rw [spelt_run k (by omega)]

/-! ### the document's -/
theorem inner_cases (c : UInt8) : innerB c = ((decide (97 ≤ (c.toNat : Int)) && decide ((c.toNat : Int) ≤ 122)) || ((decide (65 ≤ (c.toNat : Int)) && decide ((c.toNat : Int) ≤ 90)) || ((decide (48 ≤ (c.toNat : Int)) && decide ((c.toNat : Int) ≤ 57)) || decide ((c.toNat : Int) = 95)))) := by
  rw [Bool.eq_iff_iff]
  simp only [innerB, digitB, Bool.or_eq_true, Bool.and_eq_true, decide_eq_true_eq]
  omega
theorem rname_loop (k : Nat) {s : List UInt8} (hs : s.length ≤ 8) : ∀ (j n : Nat), n ≤ s.length → s.length - n < j → ∀ (kr : Bool → M α) (kx : M α),
    r3Name.u9.l k kr kx j s (n : Int) h = if (s.drop n).all innerB then kx h else kr false h := by
  intro j
  induction j with
  | zero => intro n hn hj; omega
  | succ j ih =>
    intro n hn hj kr kx
    rw [r3Name.u9.l]
    unfold r3Name.u8.f r3Name.u3.f
    by_cases hlt : n < s.length
    · have hc : s[n]? = some s[n] := List.getElem?_eq_getElem hlt
      unfold r3Name.u7.f r3Name.u5.f r3Name.u4.f r3Name.u6.f
      dsimp only
      rw [show decide ((n : Int) < (s.length : Int)) = true by simpa using hlt, cond_true, idxStr_run rfl hc, drop_get hlt, List.all_cons]
      have next := ih (n + 1) (by omega) (by omega) kr kx
      rw [w64_eq (by omega) (by omega), show ((n : Int) + 1) = ((n + 1 : Nat) : Int) by omega, inner_cases]
      generalize decide (97 ≤ (s[n].toNat : Int)) = b1
      generalize decide ((s[n].toNat : Int) ≤ 122) = b2
      generalize decide (65 ≤ (s[n].toNat : Int)) = b3
      generalize decide ((s[n].toNat : Int) ≤ 90) = b4
      generalize decide (48 ≤ (s[n].toNat : Int)) = b5
      generalize decide ((s[n].toNat : Int) ≤ 57) = b6
      generalize decide ((s[n].toNat : Int) = 95) = b7
      cases b1 <;> cases b2 <;> cases b3 <;> cases b4 <;> cases b5 <;> cases b6 <;> cases b7 <;> first | exact next | rfl
    · rw [show decide ((n : Int) < (s.length : Int)) = false by simpa using hlt, cond_false, List.drop_of_length_le (by omega)]
      simp
theorem rname_run (k : Nat) (hk : 10 ≤ k) (s : List UInt8) (ret : Bool → M α) : r3Name.f (k + 1) s ret h = ret (nameF s) h := by
  simp only [r3Name.f]
  unfold r3Name.u14.f r3Name.u1.f nameF
  cases s with
  | nil => simp [speltF]
  | cons c r =>
    have hc : (c :: r)[0]? = some c := rfl
    rw [show decide (((c :: r).length : Int) < 1) = false by simp; omega, cond_false]
    simp only [speltF]
    by_cases h8 : r.length < 8
    · rw [show decide (8 < ((c :: r).length : Int)) = false by simp; omega, cond_false, idxStr_run (i := 0) (n := 0) rfl hc, decide_eq_true h8]
      by_cases h1 : 97 ≤ (c.toNat : Int)
      · rw [show decide ((c.toNat : Int) < 97) = false by simpa using h1, cond_false, idxStr_run (i := 0) (n := 0) rfl hc, decide_eq_true h1]
        by_cases h2 : (c.toNat : Int) ≤ 122
        · rw [show decide (122 < (c.toNat : Int)) = false by simpa using h2, cond_false, decide_eq_true h2]
          unfold r3Name.u13.f r3Name.u11.f r3Name.u2.f r3Name.u10.f r3Name.u9.f r3Name.u12.f
          have lp := rname_loop (h := h) k (s := c :: r) (by simp; omega) k 0 (Nat.zero_le _) (by simp; omega) ret (ret true)
          rw [List.drop_zero] at lp
          simp only [wordsF]
          generalize decide (c :: r = [116, 116]) = b1
          generalize decide (c :: r = [102, 102]) = b2
          generalize decide (c :: r = [109, 117]) = b3
          generalize decide (c :: r = [110, 117]) = b4
          generalize (c :: r).all innerB = q at lp
          cases b1 <;> cases b2 <;> cases b3 <;> cases b4 <;> cases q <;> first | exact lp | rfl
        · rw [dT (by omega : 122 < (c.toNat : Int)), dF h2]; rfl
      · rw [dT (by omega : (c.toNat : Int) < 97), dF h1]; rfl
    · simp [h8]
      rw [show decide (8 < (r.length : Int) + 1) = true by simp; omega, cond_true]
theorem rvar_run (k : Nat) (hk : 11 ≤ k) (s : List UInt8) (ret : Bool → M α) (hl : s.length ≤ 4611686018427387900) : r4Variable.f (k + 1) s ret h = ret (varF s) h := by
  obtain ⟨k, rfl⟩ : ∃ q, k = q + 1 := ⟨k - 1, by omega⟩
  simp only [r4Variable.f]
  unfold r4Variable.u1.f varF
  cases s with
  | nil => rfl
  | cons c r =>
    have hc : (c :: r)[0]? = some c := rfl
    rw [show decide (((c :: r).length : Int) < 1) = false by simp; omega, cond_false, idxStr_run (i := 0) (n := 0) rfl hc]
    simp only [speltF]
    by_cases h1 : 65 ≤ (c.toNat : Int)
    · rw [dF (by omega : ¬ (c.toNat : Int) < 65), cond_false, idxStr_run (i := 0) (n := 0) rfl hc]
      by_cases h2 : (c.toNat : Int) ≤ 90
      · rw [dF (by omega : ¬ 90 < (c.toNat : Int)), cond_false, cutStr_from (x := 1) (n := 1) rfl (by simp)]
        unfold cat
        rw [need_run (Nat.ble_eq_true_of_le (by simp at hl ⊢; omega))]
        dsimp only
        rw [rname_run k (by omega)]
        congr 1
        have hi : innerB c = true := by rw [inner_cases]; simp only [Bool.or_eq_true, Bool.and_eq_true, decide_eq_true_eq]; omega
        have hw : wordsF ([97] ++ List.drop 1 (c :: r)) = false := by
          simp [wordsF]
        unfold nameF
        rw [hw]
        simp only [List.cons_append, List.nil_append, List.drop_succ_cons, List.drop_zero, speltF, List.all_cons, hi, h1, h2, decide_true]
        simp [inner_cases]
      · rw [dT (by omega : 90 < (c.toNat : Int)), dF h2]; simp
    · rw [dT (by omega : (c.toNat : Int) < 65), dF h1]; simp

/-! ### what stands below a node -/
def arF (k : Int) : Int := if k = 1 ∨ k = 2 ∨ k = 3 ∨ k = 4 then 0 else if k = 5 ∨ k = 8 ∨ k = 9 ∨ k = 10 ∨ k = 11 then 1 else if k = 6 ∨ k = 7 then 2 else -1
def namedF (k : Int) (s : List UInt8) : Bool := if k = 3 then nameF s else if k = 4 ∨ k = 10 ∨ k = 11 then varF s else if k = 8 ∨ k = 9 then decide (s = [45]) || nameF s else decide (s = [])
theorem kinds (k : Int) : k = 1 ∨ k = 2 ∨ k = 3 ∨ k = 4 ∨ k = 5 ∨ k = 6 ∨ k = 7 ∨ k = 8 ∨ k = 9 ∨ k = 10 ∨ k = 11 ∨ (k ≠ 1 ∧ k ≠ 2 ∧ k ≠ 3 ∧ k ≠ 4 ∧ k ≠ 5 ∧ k ≠ 6 ∧ k ≠ 7 ∧ k ≠ 8 ∧ k ≠ 9 ∧ k ≠ 10 ∧ k ≠ 11) := by omega
theorem rbelow_run (k : Nat) (x : Int) (ret : Int → M α) : r4Below.f (k + 1) x ret h = ret (arF x) h := by
  simp only [r4Below.f]
  unfold r4Below.u1.f arF
  rcases kinds x with rfl | rfl | rfl | rfl | rfl | rfl | rfl | rfl | rfl | rfl | rfl | ⟨h1, h2, h3, h4, h5, h6, h7, h8, h9, h10, h11⟩
  case inr.inr.inr.inr.inr.inr.inr.inr.inr.inr.inr => simp only [↓cF, h1, h2, h3, h4, h5, h6, h7, h8, h9, h10, h11, decide_false, or_false, if_false]
  all_goals simp only [↓cT, ↓cF, Int.reduceEq, decide_true, decide_false, true_or, or_true, or_false, false_or, if_true, if_false]
theorem rnamed_run (k : Nat) (hk : 12 ≤ k) (x a b p : Int) (s : List UInt8) (hl : s.length ≤ 4611686018427387900) (ret : Bool → M α) : r4named.f (k + 1) x a b s p ret h = ret (namedF x s) (h.push (.cells [.int .i64 x, .int .i64 a, .int .i64 b, .str s, .int .i64 p] true)) := by
  obtain ⟨k, rfl⟩ : ∃ q, k = q + 1 := ⟨k - 1, by omega⟩
  simp only [r4named.f]
  unfold r4named.u1.f namedF
  rw [new_run rfl, n5_0]
  rcases kinds x with rfl | rfl | rfl | rfl | rfl | rfl | rfl | rfl | rfl | rfl | rfl | ⟨h1, h2, h3, h4, h5, h6, h7, h8, h9, h10, h11⟩
  case inr.inr.inr.inr.inr.inr.inr.inr.inr.inr.inr => simp only [↓cF, h1, h2, h3, h4, h5, h6, h7, h8, h9, h10, h11, decide_false, or_false, if_false, n5_3]
  all_goals simp only [↓cT, ↓cF, Int.reduceEq, decide_true, decide_false, true_or, or_true, or_false, false_or, if_true, if_false, n5_3, rname_run k (by omega), rvar_run k (by omega) s _ hl]
  all_goals (cases decide (s = [45]) <;> simp only [cond_true, cond_false, n5_3, rname_run k (by omega), Bool.true_or, Bool.false_or])
def belF (k : Int) : Int := if arF k = -1 then 0 else arF k
theorem below_run (k : Nat) (hk : 12 ≤ k) (x a b p : Int) (s : List UInt8) (ret : Int → Bool → M α) :
    syntax_below.f (k + 1) x a b s p ret h = ret (belF x) (decide (0 ≤ arF x) && namedF x s) (h.push (.cells [.int .i64 x, .int .i64 a, .int .i64 b, .str s, .int .i64 p] true)) := by
  obtain ⟨k, rfl⟩ : ∃ q, k = q + 1 := ⟨k - 1, by omega⟩
  simp only [syntax_below.f]
  unfold syntax_below.u1.f belF arF namedF
  rw [new_run rfl, n5_0]
  rcases kinds x with rfl | rfl | rfl | rfl | rfl | rfl | rfl | rfl | rfl | rfl | rfl | ⟨h1, h2, h3, h4, h5, h6, h7, h8, h9, h10, h11⟩
  case inr.inr.inr.inr.inr.inr.inr.inr.inr.inr.inr => simp only [↓cF, h1, h2, h3, h4, h5, h6, h7, h8, h9, h10, h11, decide_false, or_false, if_false, n5_3]; rfl
  all_goals simp only [↓cT, ↓cF, Int.reduceEq, Int.reduceLE, decide_true, decide_false, true_or, or_true, or_false, false_or, if_true, if_false, n5_3, sname_run k (by omega), svar_run k (by omega), Bool.true_and, Int.reduceNeg]
  all_goals (cases decide (s = [45]) <;> simp only [cond_true, cond_false, n5_3, sname_run k (by omega), Bool.true_or, Bool.false_or])
end Go.Ab.S3
