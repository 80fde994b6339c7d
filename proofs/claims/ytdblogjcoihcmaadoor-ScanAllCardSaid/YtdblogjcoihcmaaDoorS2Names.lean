import Derived.Test.YtdblogjcoihcmaaDoorS2Joins
import GoSem.Claim
namespace Go.Ab.S2
set_option linter.unusedVariables false
set_option linter.unusedSimpArgs false
theorem takeWhile_self (p : UInt8 → Bool) : ∀ l : List UInt8, (∀ b ∈ l, p b = true) → l.takeWhile p = l
  | [], _ => rfl
  | a :: l, h => by
    rw [List.takeWhile_cons, h a List.mem_cons_self, takeWhile_self p l fun b hb => h b (List.mem_cons_of_mem _ hb)]
    rfl
/-- a text that is one word -/
theorem scan_word {text : List UInt8} {c : UInt8} (hc : text[0]? = some c) (hb : blankB c = false) (hr : remarkB c = false) (hw : wordF text 0 c = text) (hl : text.length ≤ 262144) :
    scanF text = if (tokF text 0 c).2 = 0 then .ok [(tokF text 0 c).1, ⟨0, (text.length : Nat), [], 0⟩] else .error (0, (tokF text 0 c).2) := by
  by_cases he : (tokF text 0 c).2 = 0
  · rw [if_pos he]
    have := Sc.tok (m := text.length) (ts := []) hc hb hr he (by rw [hw, Nat.zero_add]; exact .nil (Nat.le_refl _))
    exact this.okF hl
  · rw [if_neg he]
    exact Sc.errF (ts := []) (m := 0) (.nil (Nat.zero_le _)) ⟨⟨c, hc, hb, hr, rfl⟩, he⟩ hl
theorem name_word {c : UInt8} {r : List UInt8} (hk : kindF c.toNat = 2 ∨ kindF c.toNat = 3) (hr : ∀ b ∈ r, innerB b = true) : wordF (c :: r) 0 c = c :: r := by
  have h4 : kindF c.toNat ≠ 4 := by omega
  unfold wordF longF
  rw [if_neg h4, if_pos hk, List.drop_zero, List.drop_one, List.tail_cons, takeWhile_self _ _ hr, Nat.add_comm, show r.length + 1 = (c :: r).length from rfl]
  exact List.take_length
theorem num_word {c : UInt8} {r : List UInt8} (hk : kindF c.toNat = 4) (hr : ∀ b ∈ r, digitB b = true) : wordF (c :: r) 0 c = c :: r := by
  unfold wordF longF
  rw [if_pos hk, List.drop_zero, List.drop_one, List.tail_cons, takeWhile_self _ _ hr, Nat.add_comm, show r.length + 1 = (c :: r).length from rfl]
  exact List.take_length
theorem kind_not {c : UInt8} (h : kindF c.toNat ≠ 0) (h1 : kindF c.toNat ≠ 5) : blankB c = false ∧ remarkB c = false := by
  simp only [blankB, remarkB, Bool.or_eq_false_iff, decide_eq_false_iff_not]
  refine ⟨⟨fun e => ?_, fun e => ?_⟩, fun e => ?_⟩
  · rw [e] at h; exact h rfl
  · rw [e] at h; exact h rfl
  · rw [e] at h1; exact h1 rfl
theorem scan_name {c : UInt8} {r : List UInt8} (hk : kindF c.toNat = 2 ∨ kindF c.toNat = 3) (hr : ∀ b ∈ r, innerB b = true) (hl : (c :: r).length ≤ 262144) :
    scanF (c :: r) = if 8 < (c :: r).length then .error (0, 5) else .ok [⟨kindF c.toNat, 0, c :: r, 0⟩, ⟨0, ((c :: r).length : Nat), [], 0⟩] := by
  obtain ⟨b1, b2⟩ := kind_not (c := c) (by omega) (by omega)
  have hw := name_word hk hr
  have ht : tokF (c :: r) 0 c = (⟨kindF c.toNat, 0, c :: r, 0⟩, if 8 < (c :: r).length then 5 else 0) := by
    unfold tokF
    rw [hw, if_neg (by omega), if_pos hk]
    rfl
  rw [scan_word rfl b1 b2 hw hl, ht]
  dsimp only
  split
  · next h => rw [if_neg (by omega)]
  · rw [if_pos rfl]
theorem scan_num {c : UInt8} {r : List UInt8} (hd : ∀ b ∈ c :: r, digitB b = true) (hl : (c :: r).length ≤ 262144) :
    scanF (c :: r) = if badNum (c :: r) then .error (0, 4) else .ok [⟨4, 0, c :: r, numF (c :: r)⟩, ⟨0, ((c :: r).length : Nat), [], 0⟩] := by
  have hc := hd c List.mem_cons_self
  have hk : kindF c.toNat = 4 := by
    simp only [digitB, Bool.and_eq_true, decide_eq_true_eq] at hc
    unfold kindF
    rw [if_neg (by omega), if_neg (by omega), if_neg (by omega), if_pos (by omega)]
  obtain ⟨b1, b2⟩ := kind_not (c := c) (by omega) (by omega)
  have hw := num_word hk fun b hb => hd b (List.mem_cons_of_mem _ hb)
  have ht : tokF (c :: r) 0 c = if badNum (c :: r) then (⟨4, 0, c :: r, 0⟩, 4) else (⟨4, 0, c :: r, numF (c :: r)⟩, 0) := by
    unfold tokF
    rw [hw, if_neg (by omega), if_neg (by omega), if_pos hk]
    rfl
  rw [scan_word rfl b1 b2 hw hl, ht]
  cases badNum (c :: r) <;> rfl
theorem All_fault (k : Nat) (text : List UInt8) (hk : min text.length 262144 + 6 ≤ k) (h : H) :
    match scanF text with
    | .ok ts => ∃ sl h1, (∀ (α : Type) (ret : Sl → V → M α), scan_All.f (k + 1) text ret h = ret sl .nilIface h1) ∧ Ext h h1 ∧ Row h1 sl 4 (cellsL ts) ∧ sl.len = ts.length
    | .error (m, e) => ∃ p h1 h2, (∀ (α : Type) (ret : Sl → V → M α), scan_All.f (k + 1) text ret h = ret Sl.nil (.iface 42 (.ptr (some ⟨p, 0⟩))) h1) ∧ (∀ (α : Type) (ret : Int → Int → M α), bailifflaw02_fault.f (k + 1) (.iface 42 (.ptr (some ⟨p, 0⟩))) ret h1 = ret m e h2) ∧ Ext h h2 := by
  have a1 := All_run k text hk h
  cases hs : scanF text with
  | ok ts =>
    rw [hs] at a1
    obtain ⟨sl, h1, e, x, r, _⟩ := a1
    exact ⟨sl, h1, e, x, r, row_slen r⟩
  | error me =>
    obtain ⟨m, e⟩ := me
    rw [hs] at a1
    obtain ⟨p, h1, e1, x, _, p2, g⟩ := a1
    obtain ⟨k, rfl⟩ : ∃ q, k = q + 1 := ⟨k - 1, by omega⟩
    exact ⟨p, h1, _, e1, fun α ret => fault_run k ret h1 p m e p2 g, x.push _⟩
theorem u9_run (k : Nat) (x0 : Int) (x1 : Bool) (s : List UInt8) (sl : Sl) (v : V) (m e : Int) (x7 x8 : Bool) (h : H)
    (h1 : x7 = true ∨ x8 = true → 262144 < s.length → m = 262144 ∧ e = 2)
    (h2 : x7 = true ∨ x8 = true → s.length ≤ 262144 → 8 < s.length → m = 0 ∧ e = 5)
    (h3 : x7 = true ∨ x8 = true → s.length ≤ 8 → v = .nilIface ∧ sl.len = 2 ∧ ∀ (α : Type) (K : Int → Int → List UInt8 → Int → M α), (idxSl sl 0 4 fun a => ldI .i64 (a.add 0) fun x => ldI .i64 (a.add 1) fun y => ldStr (a.add 2) fun z => ldI .i64 (a.add 3) fun w => K x y z w) h = K (if x7 then 2 else 3) 0 s 0 h) :
    ∀ (α : Type) (kn : Int → Bool → M α) (kr : Bool → M α), bailifflaw02_ScanNames.u9.f k x0 x1 s sl v m e x7 x8 kn kr h = kn x0 x1 h := by
  intro α kn kr
  unfold bailifflaw02_ScanNames.u9.f
  by_cases hx : x7 = true ∨ x8 = true
  · have h1 := h1 hx
    have h2 := h2 hx
    have h3 := h3 hx
    by_cases hbig : 262144 < s.length
    · obtain ⟨rfl, rfl⟩ := h1 hbig
      rw [show decide ((262144 : Int) < (s.length : Int)) = true by simp; omega]
      cases x7 <;> cases x8 <;> first | (exfalso; simp at hx; done) | simp only [cond_true, cond_false, decide_true, Bool.not_true]
    · rw [show decide ((262144 : Int) < (s.length : Int)) = false by simp; omega]
      by_cases h8 : 8 < s.length
      · obtain ⟨rfl, rfl⟩ := h2 (by omega) h8
        rw [show decide ((8 : Int) < (s.length : Int)) = true by simp; omega]
        cases x7 <;> cases x8 <;> first | (exfalso; simp at hx; done) | simp only [cond_true, cond_false, decide_true, Bool.not_true]
      · obtain ⟨rfl, hlen, hrd⟩ := h3 (by omega)
        rw [show decide ((8 : Int) < (s.length : Int)) = false by simp; omega, show decide ((sl.len : Int) = 2) = true by simp; omega]
        have hrd := fun K => hrd α K
        cases x7 <;> cases x8 <;> first
          | (exfalso; simp at hx; done)
          | (simp only [cond_true, cond_false, decide_true, Bool.not_true, asNil_nil]
             rw [hrd]
             simp)
  · cases x7 <;> cases x8 <;> first | (exfalso; simp at hx; done) | simp only [cond_true, cond_false]
/-! ### numbers -/
theorem numF_zero (r : List UInt8) : numF (48 :: r) = numF r := rfl
theorem numF_lt (s : List UInt8) (hd : ∀ b ∈ s, digitB b = true) : 0 ≤ numF s ∧ numF s < 10 ^ s.length := by
  have := numF_bound s 0 hd (Int.le_refl _)
  unfold numF
  simpa using this
theorem numF_ge (c : UInt8) (r : List UInt8) (hd : ∀ b ∈ c :: r, digitB b = true) (hc : c ≠ 48) : 10 ^ r.length ≤ numF (c :: r) := by
  have h1 := hd c List.mem_cons_self
  simp only [digitB, Bool.and_eq_true, decide_eq_true_eq] at h1
  have h2 : c.toNat ≠ 48 := fun h => hc (UInt8.toNat_inj.1 h)
  have := (numF_bound r ((c.toNat : Int) - 48) (fun b hb => hd b (List.mem_cons_of_mem _ hb)) (by omega)).1
  have e : numF (c :: r) = r.foldl (fun n b => 10 * n + ((b.toNat : Int) - 48)) ((c.toNat : Int) - 48) := by
    unfold numF
    rw [List.foldl_cons]
    congr 1
    omega
  rw [e]
  refine Int.le_trans ?_ this
  have hp : (0 : Int) ≤ 10 ^ r.length := Int.pow_nonneg (by decide)
  calc (10 : Int) ^ r.length = 1 * 10 ^ r.length := by rw [Int.one_mul]
    _ ≤ _ := Int.mul_le_mul_of_nonneg_right (by omega) hp
theorem digits_loop (k : Nat) (hk : 12 ≤ k) (v : Int) (x1 : Bool) : ∀ (f : Nat) (ds : List UInt8) (h : H), ds ≠ [] → (∀ b ∈ ds, digitB b = true) → ds.length ≤ 5 → ds.length ≤ f →
    ∃ ds' h', (∀ (α : Type) (kr : Bool → M α) (kx : Int → Bool → List UInt8 → M α), bailifflaw02_ScanNames.u13.l (k + 1) kr kx f v x1 ds h = kx v x1 ds' h') ∧ ds' ≠ [] ∧ (∀ b ∈ ds', digitB b = true) ∧ ds'.length ≤ 5 ∧ numF ds' = numF ds ∧ ¬ (1 < ds'.length ∧ ds'[0]? = some 48) := by
  intro f
  induction f with
  | zero => intro ds h hne hd h5 hf; exact absurd (List.length_eq_zero_iff.1 (by omega)) hne
  | succ f ih =>
    intro ds h hne hd h5 hf
    obtain ⟨c, r, rfl⟩ : ∃ c r, ds = c :: r := by
      cases ds with
      | nil => exact absurd rfl hne
      | cons c r => exact ⟨c, r, rfl⟩
    by_cases h1 : 1 < (c :: r).length
    · by_cases h48 : c = 48
      · subst h48
        have hbad : badNum (48 :: r) = true := by
          unfold badNum
          rw [show decide (1 < (48 :: r : List UInt8).length) = true by simpa using h1]
          simp
        have a1 := All_fault k (48 :: r) (by omega) h
        rw [scan_num hd (by omega), hbad] at a1
        simp only [if_true] at a1
        obtain ⟨p, h1', h2', e1, e2, x⟩ := a1
        obtain ⟨ds', h', e3, q1, q2, q3, q4, q5⟩ := ih r h2' (by rintro rfl; simp at h1) (fun b hb => hd b (List.mem_cons_of_mem _ hb)) (by simp at h5; omega) (by simp at hf; omega)
        refine ⟨ds', h', fun α kr kx => ?_, q1, q2, q3, by rw [q4, numF_zero], q5⟩
        rw [bailifflaw02_ScanNames.u13.l, bailifflaw02_ScanNames.u12.f]
        rw [show decide ((1 : Int) < ((48 :: r : List UInt8).length : Int)) = true from decide_eq_true (by omega), cond_true, idxStr_run (i := 0) (b := 48) (n := 0) rfl rfl, show decide (((48 : UInt8).toNat : Int) = 48) = true from rfl, cond_true, e1, e2]
        rw [show decide ((0 : Int) < ((Sl.nil).len : Int)) = false from rfl, cond_false]
        rw [show decide (((0 : Nat) : Int) = 0) = true from rfl, Bool.not_true, cond_false, show decide ((4 : Int) = 4) = true from rfl, Bool.not_true, cond_false, cutStr_from (x := 1) (n := 1) rfl (by simp only [List.length_cons]; omega)]
        exact e3 α kr kx
      · refine ⟨c :: r, h, fun α kr kx => ?_, hne, hd, h5, rfl, fun hh => h48 (by simpa using hh.2)⟩
        rw [bailifflaw02_ScanNames.u13.l, bailifflaw02_ScanNames.u12.f]
        have h48' : c.toNat ≠ 48 := fun h => h48 (UInt8.toNat_inj.1 h)
        rw [show decide ((1 : Int) < ((c :: r : List UInt8).length : Int)) = true from decide_eq_true (by omega), cond_true, idxStr_run (i := 0) (b := c) (n := 0) rfl rfl, show decide ((c.toNat : Int) = 48) = false by simp; omega, cond_false]
    · refine ⟨c :: r, h, fun α kr kx => ?_, hne, hd, h5, rfl, fun hh => h1 hh.1⟩
      rw [bailifflaw02_ScanNames.u13.l, bailifflaw02_ScanNames.u12.f]
      rw [show decide ((1 : Int) < ((c :: r : List UInt8).length : Int)) = false from decide_eq_false (by omega), cond_false]
def digs (v : Nat) : List UInt8 := [UInt8.ofNat (48 + v / 10000), UInt8.ofNat (48 + v / 1000 % 10), UInt8.ofNat (48 + v / 100 % 10), UInt8.ofNat (48 + v / 10 % 10), UInt8.ofNat (48 + v % 10)]
theorem dig_nat {n : Nat} (h : n < 256) : (UInt8.ofNat n).toNat = n := by rw [UInt8.toNat_ofNat']; omega
theorem digs_digit {v : Nat} (hv : v < 20000) : ∀ b ∈ digs v, digitB b = true := by
  intro b hb
  simp only [digs, List.mem_cons, List.not_mem_nil, or_false] at hb
  simp only [digitB, Bool.and_eq_true, decide_eq_true_eq]
  rcases hb with rfl | rfl | rfl | rfl | rfl <;> rw [dig_nat (by omega)] <;> omega
theorem digs_num {v : Nat} (hv : v < 20000) : numF (digs v) = v := by
  unfold numF digs
  simp only [List.foldl_cons, List.foldl_nil]
  rw [dig_nat (by omega), dig_nat (by omega), dig_nat (by omega), dig_nat (by omega), dig_nat (by omega)]
  omega
theorem nums_part (k : Nat) (hk : 20 ≤ k) (v : Nat) (hv : v < 20000) (h : H) : ∃ h', ∀ (α : Type) (kr : Bool → M α), bailifflaw02_ScanNames.u16.f (k + 1) (v : Int) true (digs v) kr h = kr true h' := by
  obtain ⟨ds, h1, e1, q1, q2, q3, q4, q5⟩ := digits_loop k (by omega) (v : Int) true (k + 1) (digs v) h (by simp [digs]) (digs_digit hv) (by simp [digs]) (by simp [digs]; omega)
  rw [digs_num hv] at q4
  obtain ⟨c, r, rfl⟩ : ∃ c r, ds = c :: r := by
    cases ds with
    | nil => exact absurd rfl q1
    | cons c r => exact ⟨c, r, rfl⟩
  have a1 := All_fault k (c :: r) (by omega) h1
  rw [scan_num q2 (by omega)] at a1
  have hlt := numF_lt (c :: r) q2
  have start : ∀ (α : Type) (kr : Bool → M α), bailifflaw02_ScanNames.u16.f (k + 1) (v : Int) true (digs v) kr h = bailifflaw02_ScanNames.u15.f (k + 1) (v : Int) true (c :: r) kr h1 := fun α kr => e1 α _ _
  by_cases hbig : 9999 < v
  · have hbad : badNum (c :: r) = true := by
      unfold badNum
      have : 4 < (c :: r).length := by
        rcases Nat.lt_or_ge 4 (c :: r).length with h | h
        · exact h
        · exfalso
          have h2 : (10 : Int) ^ (c :: r).length ≤ 10 ^ 4 := by
            have : (10 : Nat) ^ (c :: r).length ≤ 10 ^ 4 := Nat.pow_le_pow_right (by decide) h
            exact_mod_cast this
          have h3 : (10 : Int) ^ 4 = 10000 := by decide
          omega
      rw [show decide (4 < (c :: r).length) = true by simpa using this]
      rfl
    rw [hbad] at a1
    simp only [if_true] at a1
    obtain ⟨p, h2, h3, f1, f2, _⟩ := a1
    refine ⟨h3, fun α kr => ?_⟩
    rw [start]
    unfold bailifflaw02_ScanNames.u15.f
    rw [f1, f2, show decide ((9999 : Int) < (v : Int)) = true by simp; omega]
    rfl
  · have hgood : badNum (c :: r) = false := by
      unfold badNum
      have h4 : ¬ 4 < (c :: r).length := by
        intro h4
        have hc : c ≠ 48 := fun hc => q5 ⟨by omega, by rw [hc]; rfl⟩
        have := numF_ge c r q2 hc
        have h5 : r.length = 4 := by simp at h4 q3; omega
        rw [h5] at this
        have h3 : (10 : Int) ^ 4 = 10000 := by decide
        omega
      rw [show decide (4 < (c :: r).length) = false by simpa using h4, Bool.false_or]
      by_cases h1 : 1 < (c :: r).length
      · have : (c :: r)[0]? ≠ some 48 := fun h => q5 ⟨h1, h⟩
        rw [show decide ((c :: r)[0]? = some 48) = false by simpa using this, Bool.and_false]
      · rw [show decide (1 < (c :: r).length) = false by simpa using h1, Bool.false_and]
    rw [hgood] at a1
    simp only [Bool.false_eq_true, if_false] at a1
    obtain ⟨sl, h2, f1, _, r2, hlen⟩ := a1
    refine ⟨h2, fun α kr => ?_⟩
    rw [start]
    unfold bailifflaw02_ScanNames.u15.f
    rw [f1, fault_nil, show decide ((9999 : Int) < (v : Int)) = false by simp; omega, cond_false, cond_true]
    simp only [asNil_nil, cond_true]
    rw [show decide ((sl.len : Int) = 2) = true by rw [hlen]; rfl, cond_true, tok_rd r2 (x := 0) (i := 0) rfl rfl]
    simp only [q4, decide_true, Bool.and_self]
/-! ### the letters -/
def letters : List UInt8 := [97, 98, 122, 65, 90, 95, 48, 53, 57]
def letF (b : UInt8) : UInt8 := letters.getD (b.toNat % 9) 0
theorem let_get (b : UInt8) : letters[b.toNat % 9]? = some (letF b) := by
  have : b.toNat % 9 < letters.length := Nat.mod_lt _ (by decide)
  unfold letF
  rw [List.getD_eq_getElem?_getD, List.getElem?_eq_getElem this]
  rfl
theorem let_inner (b : UInt8) : innerB (letF b) = true := by
  have h : ∀ c ∈ letters, innerB c = true := by decide
  exact h _ (List.mem_of_getElem? (let_get b))
theorem let_run {α : Type} {h : H} (b : UInt8) (K : Int → M α) : idxStr [97, 98, 122, 65, 90, 95, 48, 53, 57] (Int.tmod (b.toNat : Int) 9) K h = K ((letF b).toNat : Int) h := by
  have e : Int.tmod (b.toNat : Int) 9 = ((b.toNat % 9 : Nat) : Int) := by rw [Int.tmod_eq_emod_of_nonneg (by omega)]; rfl
  exact idxStr_run e (let_get b)
theorem bytes_one {b : UInt8} {c : Int} (h : (b.toNat : Int) = c) : bytesOf [V.int .u8 c] = some [b] := by
  subst h
  show some [UInt8.ofNat ((b.toNat : Int)).toNat] = _
  simp
theorem one_str (b : UInt8) (c : Int) (hb : (b.toNat : Int) = c) (h : H) : ∀ (β : Type) (G : List UInt8 → M β), (new [.int .u8 c] fun r4 => rdSl (⟨some r4, 1, 1, none⟩ : Sl) 1 fun cs5 => toStr cs5 G) h = G [b] (h.push (.cells [.int .u8 c] true)) := by
  intro β G
  rw [new_run rfl]
  unfold rdSl
  dsimp only
  rw [rdRow_run (cs := [.int .u8 c]) (by rw [row_of (cs := [.int .u8 c]) (o := true) (by rw [push_get]; exact if_pos rfl) (by show 0 + 1 * 1 ≤ 1; omega)]; rfl)]
  unfold toStr
  rw [bytes_one hb]
theorem names_loop (k : Nat) (x0 x2 : Int) (x3 : Bool) (rest : List UInt8) (hr : rest.length ≤ reachBytes) : ∀ (f j : Nat) (acc : List UInt8) (h : H), j ≤ rest.length → rest.length - j < f → acc.length ≤ j + 1 →
    ∃ h', ∀ (α : Type) (kx : Int → Int → Bool → List UInt8 → M α), bailifflaw02_ScanNames.u4.l k kx f x0 rest x2 x3 acc (j : Int) h = kx x0 x2 x3 (acc ++ (rest.drop j).map letF) h' := by
  have hr' : rest.length ≤ 140737488351232 := hr
  intro f
  induction f with
  | zero => intro j acc h hj hf; omega
  | succ f ih =>
    intro j acc h hj hf ha
    by_cases hlt : j < rest.length
    · have hc : rest[j]? = some rest[j] := List.getElem?_eq_getElem hlt
      obtain ⟨h', e⟩ := ih (j + 1) (acc ++ [letF rest[j]]) (h.push (.cells [.int .u8 ((letF rest[j]).toNat : Int)] true)) (by omega) (by omega) (by simp; omega)
      refine ⟨h', fun α kx => ?_⟩
      rw [bailifflaw02_ScanNames.u4.l, bailifflaw02_ScanNames.u3.f]
      rw [show decide ((j : Int) < (rest.length : Int)) = true by simpa using hlt, cond_true, idxStr_run rfl hc, let_run, one_str _ _ rfl, cat_run (by simp; omega), w64_eq (by omega) (by omega),
        show ((j : Int) + 1) = ((j + 1 : Nat) : Int) by omega, e, drop_get hlt, List.map_cons, List.append_assoc]
      rfl
    · refine ⟨h, fun α kx => ?_⟩
      rw [bailifflaw02_ScanNames.u4.l, bailifflaw02_ScanNames.u3.f]
      rw [show decide ((j : Int) < (rest.length : Int)) = false by simpa using hlt, cond_false, List.drop_of_length_le (by omega)]
      simp
theorem Names_run (c : Int) (rest : List UInt8) (x : Int) (hc : (Lit.int .u8 c).wf = true) (hx : (Lit.int .i64 x).wf = true) (hr : rest.length ≤ reachBytes) (h : H) (k : Nat) (hk : 262144 + 40 + rest.length ≤ k) :
    ∃ h', ∀ (α : Type) (ret : Bool → M α), bailifflaw02_ScanNames.f (k + 1) c rest x ret h = ret true h' := by
  have hc' : 0 ≤ c ∧ c ≤ 255 := by
    simp only [Lit.wf, IntKind.min, IntKind.max, IntKind.signed, IntKind.bits] at hc
    simp at hc
    omega
  have hx' : -9223372036854775808 ≤ x ∧ x ≤ 9223372036854775807 := by
    simp only [Lit.wf, IntKind.min, IntKind.max, IntKind.signed, IntKind.bits] at hx
    simp at hx
    omega
  obtain ⟨b, hb⟩ : ∃ b : UInt8, (b.toNat : Int) = c := ⟨UInt8.ofNat c.toNat, by rw [dig_nat (by omega)]; omega⟩
  obtain ⟨k, rfl⟩ : ∃ q, k = q + 1 := ⟨k - 1, by omega⟩
  obtain ⟨h1, e1, x1⟩ := shown_run k (by omega) h
  obtain ⟨h2, e2⟩ := names_loop (k + 1) c x true rest hr (k + 1) 0 [b] (h1.push (.cells [.int .u8 c] true)) (Nat.zero_le _) (by omega) (by simp)
  rw [List.drop_zero] at e2
  have hin : ∀ y ∈ rest.map letF, innerB y = true := by
    intro y hy
    obtain ⟨z, _, rfl⟩ := List.mem_map.1 hy
    exact let_inner z
  -- the name
  have name : ∃ h3, ∀ (α : Type) (G : Int → Bool → M α) (kr : Bool → M α), bailifflaw02_ScanNames.u7.f (k + 1) c x true (b :: rest.map letF) (fun y0 y1 y2 y3 y4 y5 y6 y7 y8 => bailifflaw02_ScanNames.u8.f (k + 1) y0 y1 y2 y3 y4 y5 y6 y7 y8 (fun y0 y1 y2 y3 y4 y5 y6 y7 y8 => bailifflaw02_ScanNames.u9.f (k + 1) y0 y1 y2 y3 y4 y5 y6 y7 y8 G kr)) h2 = G x true h3 := by
    have go : ∀ (sl : Sl) (v : V) (m e : Int) (h3 : H), (∀ (α : Type) (ret : Sl → V → Int → Int → M α), (scan_All.f (k + 1) (b :: rest.map letF) fun r6 r7 => bailifflaw02_fault.f (k + 1) r7 fun r8 r9 => ret r6 r7 r8 r9) h2 = ret sl v m e h3) →
        ((97 ≤ c ∧ c ≤ 122) ∨ (65 ≤ c ∧ c ≤ 90) → 262144 < (b :: rest.map letF).length → m = 262144 ∧ e = 2) →
        ((97 ≤ c ∧ c ≤ 122) ∨ (65 ≤ c ∧ c ≤ 90) → (b :: rest.map letF).length ≤ 262144 → 8 < (b :: rest.map letF).length → m = 0 ∧ e = 5) →
        ((97 ≤ c ∧ c ≤ 122) ∨ (65 ≤ c ∧ c ≤ 90) → (b :: rest.map letF).length ≤ 8 → v = .nilIface ∧ sl.len = 2 ∧ ∀ (α : Type) (K : Int → Int → List UInt8 → Int → M α), (idxSl sl 0 4 fun a => ldI .i64 (a.add 0) fun x => ldI .i64 (a.add 1) fun y => ldStr (a.add 2) fun z => ldI .i64 (a.add 3) fun w => K x y z w) h3 = K (if 97 ≤ c ∧ c ≤ 122 then 2 else 3) 0 (b :: rest.map letF) 0 h3) →
        ∀ (α : Type) (G : Int → Bool → M α) (kr : Bool → M α), bailifflaw02_ScanNames.u7.f (k + 1) c x true (b :: rest.map letF) (fun y0 y1 y2 y3 y4 y5 y6 y7 y8 => bailifflaw02_ScanNames.u8.f (k + 1) y0 y1 y2 y3 y4 y5 y6 y7 y8 (fun y0 y1 y2 y3 y4 y5 y6 y7 y8 => bailifflaw02_ScanNames.u9.f (k + 1) y0 y1 y2 y3 y4 y5 y6 y7 y8 G kr)) h2 = G x true h3 := by
      intro sl v m e h3 hall g1 g2 g3 α G kr
      have q := u9_run (k + 1) x true (b :: rest.map letF) sl v m e (decide (97 ≤ c ∧ c ≤ 122)) (decide (65 ≤ c ∧ c ≤ 90)) h3 (by simpa using g1) (by simpa using g2) (by simpa using g3) α G kr
      unfold bailifflaw02_ScanNames.u7.f bailifflaw02_ScanNames.u8.f
      refine (hall α _).trans ?_
      refine Eq.trans ?_ q
      by_cases a1 : 97 ≤ c <;> by_cases a2 : c ≤ 122 <;> by_cases a3 : 65 ≤ c <;> by_cases a4 : c ≤ 90 <;> first
        | (exfalso; omega)
        | simp only [a1, a2, a3, a4, decide_true, decide_false, cond_true, cond_false, and_true, and_false, true_and, false_and]
    have hkind : (97 ≤ c ∧ c ≤ 122) ∨ (65 ≤ c ∧ c ≤ 90) → kindF b.toNat = if 97 ≤ c ∧ c ≤ 122 then 2 else 3 := by
      intro hh
      rw [hb]
      unfold kindF
      rw [if_neg (by omega)]
      split
      · rfl
      · rw [if_pos (by omega)]
    have a1 := All_fault k (b :: rest.map letF) (by omega) h2
    by_cases hlet : (97 ≤ c ∧ c ≤ 122) ∨ (65 ≤ c ∧ c ≤ 90)
    · have hk2 : kindF b.toNat = 2 ∨ kindF b.toNat = 3 := by
        rw [hkind hlet]
        split
        · exact .inl rfl
        · exact .inr rfl
      by_cases hbig : 262144 < (b :: rest.map letF).length
      · rw [show scanF (b :: rest.map letF) = .error (262144, 2) by unfold scanF; rw [if_pos hbig]] at a1
        obtain ⟨p, h3, h4, f1, f2, _⟩ := a1
        exact ⟨h4, go Sl.nil (.iface 42 (.ptr (some ⟨p, 0⟩))) 262144 2 h4 (fun α ret => by rw [f1, f2]; rfl) (fun _ _ => ⟨rfl, rfl⟩) (fun _ h => by omega) (fun _ h => by omega)⟩
      · rw [scan_name hk2 hin (by omega)] at a1
        by_cases h8 : 8 < (b :: rest.map letF).length
        · rw [if_pos h8] at a1
          obtain ⟨p, h3, h4, f1, f2, _⟩ := a1
          exact ⟨h4, go Sl.nil (.iface 42 (.ptr (some ⟨p, 0⟩))) 0 5 h4 (fun α ret => by rw [f1, f2]; rfl) (fun _ h => by omega) (fun _ _ _ => ⟨rfl, rfl⟩) (fun _ h => by omega)⟩
        · rw [if_neg h8] at a1
          obtain ⟨sl, h3, f1, _, r3, hlen⟩ := a1
          exact ⟨h3, go _ _ _ _ h3 (fun α ret => by rw [f1, fault_nil]) (fun _ h => by omega) (fun _ _ h => by omega) (fun _ _ => ⟨rfl, hlen, fun α K => by
            rw [tok_rd r3 (x := 0) (i := 0) rfl rfl, ← hkind hlet]⟩)⟩
    · cases hs : scanF (b :: rest.map letF) with
      | ok ts =>
        rw [hs] at a1
        obtain ⟨sl, h3, f1, _, r3, hlen⟩ := a1
        exact ⟨h3, go _ _ _ _ h3 (fun α ret => by rw [f1, fault_nil]) (fun h => absurd h hlet) (fun h => absurd h hlet) (fun h => absurd h hlet)⟩
      | error me =>
        obtain ⟨m, e⟩ := me
        rw [hs] at a1
        obtain ⟨p, h3, h4, f1, f2, _⟩ := a1
        exact ⟨h4, go _ _ _ _ h4 (fun α ret => by rw [f1, f2]) (fun h => absurd h hlet) (fun h => absurd h hlet) (fun h => absurd h hlet)⟩
  obtain ⟨h3, e3⟩ := name
  -- the number
  obtain ⟨w, hw0, hw1, hw⟩ : ∃ w : Int, 0 ≤ w ∧ w ≤ 9223372036854775807 ∧ w = if x < 0 then w64 (0 - w64 (x + 1)) else x := by
    refine ⟨_, ?_, ?_, rfl⟩ <;> split <;> first | omega | (rw [w64_eq (n := x + 1) (by omega) (by omega), w64_eq (by omega) (by omega)]; omega)
  obtain ⟨v, hv⟩ : ∃ v : Nat, Int.tmod w 20000 = (v : Int) := ⟨(Int.tmod w 20000).toNat, by
    rw [Int.toNat_of_nonneg]
    exact Int.tmod_nonneg _ hw0⟩
  have hvlt : v < 20000 := by
    have : Int.tmod w 20000 < 20000 := Int.tmod_lt_of_pos _ (by decide)
    omega
  have dcell : ∀ n : Nat, n < 100 → IntKind.wrap .u8 (w64 (48 + (n : Int))) = ((48 + n : Nat) : Int) := by
    intro n hn
    rw [w64_eq (by omega) (by omega), IntKind.wrap_u8']
    omega
  have hdiv : ∀ d : Nat, d ≠ 0 → Int.tdiv (v : Int) (d : Int) = ((v / d : Nat) : Int) := by
    intro d hd
    rw [Int.tdiv_eq_ediv_of_nonneg (by omega)]
    rfl
  have hmod : ∀ a d : Nat, Int.tmod (a : Int) (d : Int) = ((a % d : Nat) : Int) := by
    intro a d
    rw [Int.tmod_eq_emod_of_nonneg (by omega)]
    rfl
  have hcs : [V.int .u8 (IntKind.wrap .u8 (w64 (48 + (w64 (Int.tdiv (Int.tmod w 20000) 10000))))), V.int .u8 (IntKind.wrap .u8 (w64 (48 + (Int.tmod (w64 (Int.tdiv (Int.tmod w 20000) 1000)) 10)))), V.int .u8 (IntKind.wrap .u8 (w64 (48 + (Int.tmod (w64 (Int.tdiv (Int.tmod w 20000) 100)) 10)))), V.int .u8 (IntKind.wrap .u8 (w64 (48 + (Int.tmod (w64 (Int.tdiv (Int.tmod w 20000) 10)) 10)))), V.int .u8 (IntKind.wrap .u8 (w64 (48 + (Int.tmod (Int.tmod w 20000) 10))))]
      = [V.int .u8 ((48 + v / 10000 : Nat) : Int), V.int .u8 ((48 + v / 1000 % 10 : Nat) : Int), V.int .u8 ((48 + v / 100 % 10 : Nat) : Int), V.int .u8 ((48 + v / 10 % 10 : Nat) : Int), V.int .u8 ((48 + v % 10 : Nat) : Int)] := by
    have e4 := hdiv 10000 (by decide)
    have e3 := hdiv 1000 (by decide)
    have e2 := hdiv 100 (by decide)
    have e1 := hdiv 10 (by decide)
    simp only [Int.cast_ofNat_Int] at e1 e2 e3 e4
    rw [hv, e4, e3, e2, e1]
    rw [w64_eq (n := ((v / 10000 : Nat) : Int)) (by omega) (by omega), w64_eq (n := ((v / 1000 : Nat) : Int)) (by omega) (by omega), w64_eq (n := ((v / 100 : Nat) : Int)) (by omega) (by omega), w64_eq (n := ((v / 10 : Nat) : Int)) (by omega) (by omega)]
    have m3 := hmod (v / 1000) 10
    have m2 := hmod (v / 100) 10
    have m1 := hmod (v / 10) 10
    have m0 := hmod v 10
    simp only [Int.cast_ofNat_Int] at m0 m1 m2 m3
    rw [m3, m2, m1, m0, dcell _ (by omega), dcell _ (by omega), dcell _ (by omega), dcell _ (by omega), dcell _ (by omega)]
  obtain ⟨h4, e4⟩ := nums_part k (by omega) v hvlt (h3.push (.cells [V.int .u8 ((48 + v / 10000 : Nat) : Int), V.int .u8 ((48 + v / 1000 % 10 : Nat) : Int), V.int .u8 ((48 + v / 100 % 10 : Nat) : Int), V.int .u8 ((48 + v / 10 % 10 : Nat) : Int), V.int .u8 ((48 + v % 10 : Nat) : Int)] true))
  have num : ∀ (α : Type) (kr : Bool → M α), bailifflaw02_ScanNames.u17.f (k + 1) w true kr h3 = kr true h4 := by
    intro α kr
    unfold bailifflaw02_ScanNames.u17.f bailifflaw02_ScanNames.u11.f
    rw [hcs, new_run rfl]
    unfold rdSl
    dsimp only
    rw [rdRow_run (cs := [V.int .u8 ((48 + v / 10000 : Nat) : Int), V.int .u8 ((48 + v / 1000 % 10 : Nat) : Int), V.int .u8 ((48 + v / 100 % 10 : Nat) : Int), V.int .u8 ((48 + v / 10 % 10 : Nat) : Int), V.int .u8 ((48 + v % 10 : Nat) : Int)])
      (by rw [row_of (o := true) (by rw [push_get]; exact if_pos rfl) (by show 0 + 5 * 1 ≤ 5; omega)]; rfl)]
    unfold toStr
    rw [show bytesOf [V.int .u8 ((48 + v / 10000 : Nat) : Int), V.int .u8 ((48 + v / 1000 % 10 : Nat) : Int), V.int .u8 ((48 + v / 100 % 10 : Nat) : Int), V.int .u8 ((48 + v / 10 % 10 : Nat) : Int), V.int .u8 ((48 + v % 10 : Nat) : Int)] = some (digs v) from rfl]
    dsimp only
    rw [hv]
    exact e4 α kr
  refine ⟨h4, fun α ret => ?_⟩
  simp only [bailifflaw02_ScanNames.f]
  unfold bailifflaw02_ScanNames.u23.f bailifflaw02_ScanNames.u1.f
  rw [e1, one_str b c hb]
  unfold bailifflaw02_ScanNames.u22.f bailifflaw02_ScanNames.u6.f bailifflaw02_ScanNames.u2.f bailifflaw02_ScanNames.u5.f bailifflaw02_ScanNames.u4.f
  refine (e2 α _).trans ?_
  unfold bailifflaw02_ScanNames.u21.f bailifflaw02_ScanNames.u20.f bailifflaw02_ScanNames.u19.f
  refine (e3 α _ _).trans ?_
  unfold bailifflaw02_ScanNames.u18.f bailifflaw02_ScanNames.u10.f
  by_cases hneg : x < 0
  · rw [show decide (x < 0) = true by simpa using hneg, cond_true]
    rw [if_pos hneg] at hw
    rw [← hw]
    exact num α _
  · rw [show decide (x < 0) = false by simpa using hneg, cond_false]
    rw [if_neg hneg] at hw
    rw [← hw]
    exact num α _
theorem Names_law (c : Int) (rest : List UInt8) (x : Int) (hc : (Lit.int .u8 c).wf = true) (hx : (Lit.int .i64 x).wf = true) (hr : rest.length ≤ reachBytes) : ∃ k h', ∀ (α : Type) (ret : Bool → M α), bailifflaw02_ScanNames.f (k + 1) c rest x ret h0 = ret true h' :=
  ⟨262184 + rest.length, Names_run c rest x hc hx hr h0 _ (Nat.le_refl _)⟩
end Go.Ab.S2
