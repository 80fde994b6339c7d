import Derived.Test.YtdblogjcoihcmaaDoorS2x
import GoSem.Claim
namespace Go.Ab.S2
set_option linter.unusedVariables false
set_option linter.unusedSimpArgs false
theorem longF_one (c : Int) (b : UInt8) : longF c [b] = 1 := by
  unfold longF
  split
  · rfl
  · split <;> rfl
theorem wordF_one (b c : UInt8) : wordF [b] 0 c = [b] := by
  unfold wordF
  rw [List.drop_zero, longF_one]; rfl
/-- what a text of one byte is -/
theorem scan_one (b : UInt8) : scanF [b] =
    if blankB b || remarkB b then .ok [⟨0, 1, [], 0⟩] else if kindF b.toNat = 0 then .error (0, 3) else .ok [⟨kindF b.toNat, 0, [b], if kindF b.toNat = 4 then numF [b] else 0⟩, ⟨0, 1, [], 0⟩] := by
  have hend : allF [b] 1 1 = .ok [] := rfl
  unfold scanF
  rw [if_neg (by simp : ¬ 262144 < [b].length)]
  show (allF [b] (1 + 1) 0).map _ = _
  rw [allF_step (c := b) rfl]
  cases hb : blankB b with
  | true => simp [hend, Except.map]
  | false =>
    cases hr : remarkB b with
    | true =>
      have : remF ([b].drop 0) = 1 := by
        obtain ⟨r1, r2⟩ := rem_pos' (text := [b]) (n := 0) rfl hr
        simp at r2 ⊢
        simp at r1
        omega
      simp only [Bool.false_eq_true, if_false, if_true, this]
      rw [show 0 + 1 = 1 from rfl, hend]
      rfl
    | false =>
      simp only [Bool.false_eq_true, if_false, wordF_one]
      rw [show 0 + [b].length = 1 from rfl, hend]
      unfold tokF
      simp only [wordF_one]
      have h8 : ¬ 8 < [b].length := by simp
      have hbad : badNum [b] = false := rfl
      simp only [h8, if_false, hbad, Bool.false_eq_true]
      by_cases h0 : kindF b.toNat = 0
      · simp [h0]; rfl
      · by_cases h23 : kindF b.toNat = 2 ∨ kindF b.toNat = 3
        · have h4 : kindF b.toNat ≠ 4 := by omega
          simp [h0, h23, h4]; rfl
        · by_cases h4 : kindF b.toNat = 4
          · simp [h0, h23, h4]; rfl
          · simp [h0, h23, h4]; rfl
theorem Signs_run (c : Int) (hc : (Lit.int .u8 c).wf = true) (h : H) (k : Nat) (hk : 40 ≤ k) : ∃ h', ∀ (α : Type) (ret : Bool → M α), bailifflaw02_ScanSigns.f (k + 1) c ret h = ret true h' := by
  have hc' : 0 ≤ c ∧ c ≤ 255 := by
    simp only [Lit.wf, IntKind.min, IntKind.max, IntKind.signed, IntKind.bits] at hc
    simp at hc
    omega
  obtain ⟨k, rfl⟩ : ∃ q, k = q + 2 := ⟨k - 2, by omega⟩
  obtain ⟨b, hb⟩ : ∃ b : UInt8, (b.toNat : Int) = c := ⟨UInt8.ofNat c.toNat, by
    have : (UInt8.ofNat c.toNat).toNat = c.toNat := by rw [UInt8.toNat_ofNat']; omega
    omega⟩
  have hbc : UInt8.ofNat c.toNat = b := by rw [← hb]; simp
  obtain ⟨h1, e1, x1⟩ := shown_run (k + 1) (by omega) h
  have a1 := All_run (k + 1) [b] (by simp; omega) (h1.push (.cells [.int .u8 c] true))
  -- as far as All
  have start : ∀ (α : Type) (kn : Int → Bool → Sl → V → Int → M α) (kr : Bool → M α) (K : Sl → V → M α), (∀ (r7 : Sl) (r8 : V), K r7 r8 = K r7 r8) →
      (∀ (β : Type) (G : List UInt8 → M β), (new [.int .u8 c] fun r4 => rdSl (⟨some r4, 1, 1, none⟩ : Sl) 1 fun cs5 => toStr cs5 G) h1 = G [b] (h1.push (.cells [.int .u8 c] true))) := by
    intro α kn kr K _ β G
    rw [new_run rfl]
    unfold rdSl
    dsimp only
    rw [rdRow_run (cs := [.int .u8 c]) (by rw [row_of (cs := [.int .u8 c]) (o := true) (by rw [push_get]; exact if_pos rfl) (by show 0 + 1 * 1 ≤ 1; omega)]; rfl)]
    unfold toStr
    have : bytesOf [.int .u8 c] = some [b] := by
      show some [UInt8.ofNat c.toNat] = _
      rw [hbc]
    rw [this]
  have str1 := start Unit (fun _ _ _ _ _ => fail) (fun _ => fail) (fun _ _ => fail) (fun _ _ => rfl)
  rw [scan_one] at a1
  by_cases hbl : blankB b || remarkB b
  · rw [if_pos hbl] at a1
    obtain ⟨sl, h2, e2, x2, r2, _⟩ := a1
    have hlen := row_slen r2
    refine ⟨h2, fun α ret => ?_⟩
    simp only [bailifflaw02_ScanSigns.f]
    unfold bailifflaw02_ScanSigns.u3.f bailifflaw02_ScanSigns.u1.f
    rw [e1, str1, e2, fault_nil]
    have hl1 : decide ((sl.len : Int) = 1) = true := by rw [hlen]; rfl
    have hcase : c = 32 ∨ c = 9 ∨ c = 35 := by
      simp only [blankB, remarkB, Bool.or_eq_true, decide_eq_true_eq] at hbl
      omega
    have fin : ∀ (K : Int → Int → List UInt8 → Int → M α), (idxSl sl 0 4 fun a => ldI .i64 (a.add 0) fun x => ldI .i64 (a.add 1) fun y => ldStr (a.add 2) fun z => ldI .i64 (a.add 3) fun w => K x y z w) h2 = K 0 1 [] 0 h2 := fun K =>
      tok_rd r2 (i := 0) rfl rfl K
    rcases hcase with h | h | h
    · subst h
      rw [show decide ((32 : Int) = 32) = true from rfl]
      simp only [cond_true, asNil_nil, hl1]
      rw [fin]
      rfl
    · subst h
      rw [show decide ((9 : Int) = 32) = false from rfl, show decide ((9 : Int) = 9) = true from rfl]
      simp only [cond_true, cond_false, asNil_nil, hl1]
      rw [fin]
      rfl
    · subst h
      rw [show decide ((35 : Int) = 32) = false from rfl, show decide ((35 : Int) = 9) = false from rfl, show decide ((35 : Int) = 35) = true from rfl]
      simp only [cond_true, cond_false, asNil_nil, hl1]
      rw [fin]
      rfl
  · rw [if_neg hbl] at a1
    have hn : c ≠ 32 ∧ c ≠ 9 ∧ c ≠ 35 := by
      simp only [blankB, remarkB, Bool.or_eq_true, decide_eq_true_eq] at hbl
      omega
    have d32 : decide (c = 32) = false := by simpa using hn.1
    have d9 : decide (c = 9) = false := by simpa using hn.2.1
    have d35 : decide (c = 35) = false := by simpa using hn.2.2
    rw [hb] at a1
    -- the many ways of u1, told by the kind
    have ways : ∀ (α : Type) (A : Int → M α) (Z : M α) (hh : H),
        (cond (decide (c = 10)) (A 1) (cond (decide (97 ≤ c)) (cond (decide (c ≤ 122)) (A 2) (cond (decide (65 ≤ c)) (cond (decide (c ≤ 90)) (A 3) (cond (decide (48 ≤ c)) (cond (decide (c ≤ 57)) (A 4)
            (cond (decide (33 ≤ c)) (cond (decide (c ≤ 126)) (cond (!(decide (c = 95))) (A 5) Z) Z) Z)) (cond (decide (33 ≤ c)) (cond (decide (c ≤ 126)) (cond (!(decide (c = 95))) (A 5) Z) Z) Z)))
          (cond (decide (48 ≤ c)) (cond (decide (c ≤ 57)) (A 4) (cond (decide (33 ≤ c)) (cond (decide (c ≤ 126)) (cond (!(decide (c = 95))) (A 5) Z) Z) Z)) (cond (decide (33 ≤ c)) (cond (decide (c ≤ 126)) (cond (!(decide (c = 95))) (A 5) Z) Z) Z))))
          (cond (decide (65 ≤ c)) (cond (decide (c ≤ 90)) (A 3) (cond (decide (48 ≤ c)) (cond (decide (c ≤ 57)) (A 4) (cond (decide (33 ≤ c)) (cond (decide (c ≤ 126)) (cond (!(decide (c = 95))) (A 5) Z) Z) Z))
            (cond (decide (33 ≤ c)) (cond (decide (c ≤ 126)) (cond (!(decide (c = 95))) (A 5) Z) Z) Z))) (cond (decide (48 ≤ c)) (cond (decide (c ≤ 57)) (A 4) (cond (decide (33 ≤ c)) (cond (decide (c ≤ 126)) (cond (!(decide (c = 95))) (A 5) Z) Z) Z))
            (cond (decide (33 ≤ c)) (cond (decide (c ≤ 126)) (cond (!(decide (c = 95))) (A 5) Z) Z) Z))))) hh = if kindF c = 0 then Z hh else A (kindF c) hh := by
      intro α A Z hh
      by_cases h1 : c = 10
      · simp [kindF, h1]
      by_cases h2 : 97 ≤ c ∧ c ≤ 122
      · simp [kindF, h1, h2]
      by_cases h3 : 65 ≤ c ∧ c ≤ 90
      · have a1 : ¬ 97 ≤ c := by omega
        simp [kindF, h1, a1, h3]
      by_cases h4 : 48 ≤ c ∧ c ≤ 57
      · have a1 : ¬ 97 ≤ c := by omega
        have a2 : ¬ 65 ≤ c := by omega
        simp [kindF, h1, a1, a2, h4]
      have k0 : kindF c = if 32 < c ∧ c < 127 ∧ c ≠ 95 then 5 else 0 := by unfold kindF; rw [if_neg h1, if_neg h2, if_neg h3, if_neg h4]
      rw [k0]
      have d1 : decide (c = 10) = false := by simpa using h1
      rw [d1]
      by_cases b1 : 97 ≤ c <;> by_cases b2 : c ≤ 122 <;> by_cases b3 : 65 ≤ c <;> by_cases b4 : c ≤ 90 <;> by_cases b5 : 48 ≤ c <;> by_cases b6 : c ≤ 57 <;> first
        | (exfalso; omega)
        | (by_cases b7 : 33 ≤ c <;> by_cases b8 : c ≤ 126 <;> by_cases b9 : c = 95 <;> first
            | (exfalso; omega)
            | (have b7' : 32 < c := by omega
               have b8' : c < 127 := by omega
               simp [b1, b2, b3, b4, b5, b6, b7, b8, b9, b7', b8'])
            | (have b7' : ¬ 32 < c := by omega
               simp [b1, b2, b3, b4, b5, b6, b7, b8, b9, b7'])
            | (have b8' : ¬ c < 127 := by omega
               simp [b1, b2, b3, b4, b5, b6, b7, b8, b9, b8']))
    by_cases h0 : kindF c = 0
    · rw [if_pos h0] at a1
      obtain ⟨p, h2, e2, x2, _, p2, g2⟩ := a1
      refine ⟨h2.push (.cells [.ptr (some ⟨p, 0⟩)] true), fun α ret => ?_⟩
      simp only [bailifflaw02_ScanSigns.f]
      unfold bailifflaw02_ScanSigns.u3.f bailifflaw02_ScanSigns.u1.f
      rw [e1, str1, e2, fault_run k _ h2 p (0 : Int) 3 p2 g2, d32, cond_false, d9, cond_false, d35, cond_false]
      refine (ways α (fun q => bailifflaw02_ScanSigns.u2.f (k + 2) c true Sl.nil (.iface 42 (.ptr (some ⟨p, 0⟩))) q fun y0 => ret y0) (ret true) _).trans ?_
      rw [if_pos h0]
    · rw [if_neg h0] at a1
      obtain ⟨sl, h2, e2, x2, r2, _⟩ := a1
      have hlen := row_slen r2
      have rdt : ∀ (α : Type) (K : Int → M α), (idxSl sl 0 4 fun a8 => ldI .i64 ((a8.add 0).add 0) K) h2 = K (kindF c) h2 := by
        intro α K
        obtain ⟨id, d1, d2, _, c0, c1, c2, c3⟩ := row_tok r2 (i := 0) rfl
        rw [idxSl_run (i := 0) d1 (n := 0) rfl d2]
        simp only [add_mk, Nat.zero_add, Nat.add_zero]
        exact ldI_run c0
      obtain ⟨id, d1, d2, _, c0, c1, c2, c3⟩ := row_tok r2 (i := 0) rfl
      have c2' : ∀ b' : Blk, (h2.push b').cell ⟨id, 0 * 4 + 2⟩ = some (.str [b]) := fun b' => by
        have hid : id < h2.next := by
          rcases r2 with ⟨h, _⟩ | ⟨id', q1, q2, q3, q4⟩
          · rw [h] at d1; cases d1
          · rw [q1] at d1; cases d1; exact q4
        rw [cell_old (by show id ≠ h2.next; omega)]
        exact c2
      refine ⟨h2.push (.cells [.int .u8 c] true), fun α ret => ?_⟩
      simp only [bailifflaw02_ScanSigns.f]
      unfold bailifflaw02_ScanSigns.u3.f bailifflaw02_ScanSigns.u1.f
      rw [e1, str1, e2, fault_nil, d32, cond_false, d9, cond_false, d35, cond_false]
      refine (ways α (fun q => bailifflaw02_ScanSigns.u2.f (k + 2) c true sl .nilIface q fun y0 => ret y0) (ret false) _).trans ?_
      rw [if_neg h0]
      unfold bailifflaw02_ScanSigns.u2.f
      simp only [cond_true, asNil_nil]
      rw [show decide ((sl.len : Int) = 2) = true by rw [hlen]; rfl, cond_true, rdt]
      simp only [decide_true, cond_true]
      rw [idxSl_run (i := 0) d1 (n := 0) rfl d2]
      simp only [add_mk, Nat.zero_add, Nat.add_zero]
      rw [ldStr_run c2, new_run rfl, ldStr_run (c2' _), need_run (by simp)]
      unfold rdSl
      dsimp only
      rw [rdRow_run (cs := [.int .u8 c]) (by rw [row_of (cs := [.int .u8 c]) (o := true) (by rw [push_get]; exact if_pos rfl) (by show 0 + 1 * 1 ≤ 1; omega)]; rfl)]
      unfold toStr
      have : bytesOf [.int .u8 c] = some [b] := by
        show some [UInt8.ofNat c.toNat] = _
        rw [hbc]
      rw [this]
      dsimp only
      rw [ldStr_run (c2' _), need_run (by simp)]
      simp
theorem Signs_law (c : Int) (hc : (Lit.int .u8 c).wf = true) : ∃ k h', ∀ (α : Type) (ret : Bool → M α), bailifflaw02_ScanSigns.f (k + 1) c ret h0 = ret true h' :=
  ⟨50, Signs_run c hc h0 50 (by decide)⟩
end Go.Ab.S2
