import Derived.Test.YtkfoohgkbafafaaDoorS6tk
import Derived.Test.YtkfoohgkbafafaaDoorS6a
import Derived.Test.YtkfoohgkbafafaaDoorAb20
import Derived.Test.YtkfoohgkbafafaaDoorS6s
namespace Go.Ab.S6
set_option linter.unusedVariables false
set_option linter.unusedSimpArgs false
def endT (text : List UInt8) : Tok := ⟨0, (text.length : Nat), [], 0⟩
def words (ts : List Tok) : List Tok := ts.filter fun t => !lineT t
theorem words_append (a b : List Tok) : words (a ++ b) = words a ++ words b := List.filter_append _ _
theorem words_shift (d : Int) : ∀ ts : List Tok, words (ts.map (Tok.shift d)) = (words ts).map (Tok.shift d)
  | [] => rfl
  | t :: ts => by
    unfold words
    rw [List.map_cons, List.filter_cons, List.filter_cons]
    have := words_shift d ts
    unfold words at this
    rw [this]
    have e : lineT (t.shift d) = lineT t := rfl
    rw [e]
    cases lineT t <;> rfl
structure Psd (text : List UInt8) (F : List Nd) (ts : List Tok) (t : Tr) : Prop where
  len : text.length ≤ 262144
  sc : Sc text 0 ts text.length
  ok : t.ok = true
  pos : t.at fun p => 0 ≤ p ∧ p ≤ text.length
  flat : F = t.flat 0
  size : t.size ≤ 60
  ends : Ends (words ts ++ [endT text])
  read : ∃ s', Ok (.row true) 0 ⟨words ts ++ [endT text], 0, []⟩ (((t.size - 1 : Nat) : Int), s') ∧ s'.hd.kind = 0 ∧ s'.f = F ∧ s'.made = F.length
theorem parsed {text : List UInt8} {F : List Nd} (h : parseF text = .ok F) : ∃ ts t, Psd text F ts t := by
  rcases scanF_cases text with ⟨_, hs⟩ | ⟨hl, ts, sc, hs⟩ | ⟨_, _, _, _, _, _, hs⟩
  · unfold parseF at h; rw [hs] at h; cases h
  · unfold parseF at h
    have hsok := hs
    rw [hs] at h
    have h : parseE (words (ts ++ [endT text])) = .ok F := h
    have he : Ends (words (ts ++ [endT text])) := ((scan_ends hsok).resolve_right id).1
    rw [words_append] at h he
    have e1 : words [endT text] = [endT text] := rfl
    rw [e1] at h he
    obtain ⟨n, s', h1, h2, h3⟩ := parse_inv h
    obtain ⟨j, hj⟩ := h1.one
    have hb := pz_bal _ _ _ _ _ _ hj
    have hT : ∀ t ∈ words ts ++ [endT text], TokOk (fun p => 0 ≤ p ∧ p ≤ text.length) t := by
      intro t ht
      rcases List.mem_append.1 ht with ht | ht
      · exact sc.toks t (List.mem_filter.1 ht).1
      · rw [List.mem_singleton.1 ht]
        exact ⟨⟨by show (0 : Int) ≤ (text.length : Nat); omega, by show ((text.length : Nat) : Int) ≤ _; omega⟩, fun hk => absurd hk (by show ¬ (0 : Int) = 2; decide), fun hk => absurd hk (by show ¬ (0 : Int) = 3; decide)⟩
    obtain ⟨_, t, t1, t2, t3, t4⟩ := pz_tree _ _ _ _ _ _ hj he hT
    have t3 : s'.f = t.flat 0 := by rw [t3]; rfl
    have hm : s'.made = s'.f.length := by
      have := hb.1
      simp only [List.length_nil] at this
      omega
    have h60 : s'.made ≤ 60 := hb.2.2.1 (Nat.zero_le _)
    have t4 : n = ((t.size - 1 : Nat) : Int) := by rw [t4]; simp
    rw [t4] at h1
    refine ⟨ts, t, hl, sc, t1, t2, by rw [← h3, t3], ?_, he, s', h1, h2, h3, by rw [hm, h3]⟩
    rw [t3, flat_length] at hm
    omega
  · unfold parseF at h; rw [hs] at h; cases h
theorem Psd.flen {text : List UInt8} {F : List Nd} {ts : List Tok} {t : Tr} (p : Psd text F ts t) : F.length = t.size := by rw [p.flat, flat_length]
theorem mvl_snoc (d : Int) (tail : List Tok) (e : Tok) : ∀ us : List Tok, mvl d tail (us ++ [e]) = us.map (Tok.shift d) ++ tail
  | [] => rfl
  | [t] => rfl
  | t :: u :: r => by
    have := mvl_snoc d tail e (u :: r)
    show t.shift d :: mvl d tail (u :: r ++ [e]) = _
    rw [this]
    rfl
theorem Psd.moved {text : List UInt8} {F : List Nd} {ts : List Tok} {t : Tr} (p : Psd text F ts t) {tail : List Tok} (hst : Stops tail) (m0 n0 : Nat) (d : Int) {f0 : List Nd} (hf0 : f0.length = n0) (h60 : m0 ≤ 60) :
    (m0 + F.length ≤ 60 ∧ Ok (.row true) 0 ⟨(words ts).map (Tok.shift d) ++ tail, m0, f0⟩ (((t.size - 1 : Nat) : Int) + n0, ⟨tail, F.length + m0, f0 ++ F.map (Nd.mv n0 d)⟩)) ∨
    (60 < m0 + F.length ∧ ∃ q, Fl (.row true) 0 ⟨(words ts).map (Tok.shift d) ++ tail, m0, f0⟩ (q, 10)) := by
  obtain ⟨s', h1, h2, h3, h4⟩ := p.read
  obtain ⟨j, hj⟩ := h1.one
  have hb := pz_bal _ _ _ _ _ _ hj
  have := pz_mv (n0 := n0) (m0 := m0) (d := d) (f0 := f0) (tail := tail) hst hf0 _ _ _ 0 _ _ _ hj p.ends (by show m0 + 0 ≤ 60; omega) (fun o e => by cases e)
  have e1 : mvS n0 m0 d f0 tail ⟨words ts ++ [endT text], 0, []⟩ = ⟨(words ts).map (Tok.shift d) ++ tail, m0, f0⟩ := by
    unfold mvS
    simp only [mvl_snoc, List.map_nil, List.append_nil, Nat.zero_add]
  have e2 : mvS n0 m0 d f0 tail s' = ⟨tail, F.length + m0, f0 ++ F.map (Nd.mv n0 d)⟩ := by
    have := mvS_end (n0 := n0) (m0 := m0) (d := d) (f0 := f0) (tail := tail) (hb.2.2.2.1 p.ends) h2
    unfold mvS at this ⊢
    simp only at this
    rw [this, h3, h4]
  rw [e1] at this
  rcases this with ⟨a1, a2⟩ | ⟨a1, q, a2⟩
  · left
    rw [h4] at a1
    rw [e2] at a2
    exact ⟨a1, .of a2⟩
  · right
    rw [h4] at a1
    exact ⟨a1, q, .of a2 (by show (10 : Int) ≠ 0; decide)⟩
def sgT (p : Int) (c : UInt8) : Tok := ⟨5, p, [c], 0⟩
theorem stops_sg (p : Int) {c : UInt8} (h1 : c ≠ 124) (h2 : c ≠ 38) (r : List Tok) : Stops (sgT p c :: r) := by
  intro o m f
  unfold isS St.hd
  cases o
  · simp [signO, sgT, h2]
  · simp [signO, sgT, h1]
theorem stops_kind {t : Tok} (h : t.kind ≠ 5) (r : List Tok) : Stops (t :: r) := by
  intro o m f
  exact isS_kind_ne (s := ⟨t :: r, m, f⟩) h _
theorem isS_sg (p : Int) (c : UInt8) (r : List Tok) (m : Nat) (f : List Nd) : isS [c] ⟨sgT p c :: r, m, f⟩ = true := by
  simp [isS, St.hd, sgT]
theorem Psd.par {text : List UInt8} {F : List Nd} {ts : List Tok} {t : Tr} (p : Psd text F ts t) (x y : Int) (rest : List Tok) (m0 n0 : Nat) (d : Int) {f0 : List Nd} (hf0 : f0.length = n0) (h60 : m0 ≤ 60) :
    (m0 + F.length ≤ 60 ∧ Ok .un 0 ⟨sgT x 40 :: ((words ts).map (Tok.shift d) ++ sgT y 41 :: rest), m0, f0⟩ (((t.size - 1 : Nat) : Int) + n0, ⟨rest, F.length + m0, f0 ++ F.map (Nd.mv n0 d)⟩)) ∨
    (60 < m0 + F.length ∧ ∃ q, Fl .un 0 ⟨sgT x 40 :: ((words ts).map (Tok.shift d) ++ sgT y 41 :: rest), m0, f0⟩ (q, 10)) := by
  rcases p.moved (stops_sg y (c := 41) (by decide) (by decide) rest) m0 n0 d hf0 h60 with ⟨h1, h2⟩ | ⟨h1, q, h2⟩
  · exact .inl ⟨h1, Ok.par (isS_sg _ _ _ _ _) h2 (isS_sg _ _ _ _ _)⟩
  · exact .inr ⟨h1, q, Fl.par (isS_sg _ _ _ _ _) h2⟩
def Sx (p r : List UInt8) (ts : List Tok) (q r' : List UInt8) : Prop := p ++ r = q ++ r' ∧ Sc (p ++ r) p.length ts q.length
theorem Sx.trans {p r q r' v r'' : List UInt8} {ts us : List Tok} (a : Sx p r ts q r') (b : Sx q r' us v r'') : Sx p r (ts ++ us) v r'' := by
  refine ⟨a.1.trans b.1, a.2.trans ?_⟩
  rw [a.1]
  exact b.2
theorem Sx.sign (p : List UInt8) (c : UInt8) (r : List UInt8) (x : Int) (hx : x = (p.length : Nat)) (hk : kindF c.toNat = 5) (h35 : (c.toNat : Int) ≠ 35) : Sx p (c :: r) [sgT x c] (p ++ [c]) r := by
  subst hx
  refine ⟨by simp, ?_⟩
  have := Sc.sign p c r hk h35
  rw [show (p ++ [c]).length = p.length + 1 by simp]
  exact this
theorem Sx.space (p r : List UInt8) : Sx p (32 :: r) [] (p ++ [32]) r := ⟨by simp, by have := Sc.space p r; simpa using this⟩
theorem Sx.name (p : List UInt8) (c : UInt8) (w r : List UInt8) (x : Int) (hx : x = (p.length : Nat)) {kd : Int} (hk : kindF c.toNat = kd) (hkd : kd = 2 ∨ kd = 3) (hw : ∀ b ∈ w, innerB b = true) (hl : w.length < 8) (hr : ∀ b s, r = b :: s → innerB b = false) :
    Sx p ((c :: w) ++ r) [⟨kd, x, c :: w, 0⟩] (p ++ (c :: w)) r := by
  subst hx
  refine ⟨by simp, ?_⟩
  have := Sc.name p c w r hk hkd hw hl hr
  rw [show (p ++ (c :: w)).length = p.length + (c :: w).length by simp]
  exact this
theorem Sx.text (p : List UInt8) {a : List UInt8} {ts : List Tok} (s : Sc a 0 ts a.length) (r : List UInt8) (x : Int) (hx : x = (p.length : Nat)) : Sx p (a ++ 10 :: r) (ts.map (Tok.shift x) ++ [⟨1, x + a.length, [10], 0⟩]) (p ++ (a ++ [10])) r := by
  subst hx
  have h1 := ((s.join r).trans (Sc.line a r)).behind p
  refine ⟨by simp, ?_⟩
  simp only [Nat.add_zero, List.map_append, List.map_cons, List.map_nil] at h1
  have e0 : (p ++ (a ++ [10])).length = p.length + (a.length + 1) := by simp
  rw [e0]
  have e : Tok.shift p.length ⟨1, a.length, [10], 0⟩ = ⟨1, p.length + a.length, [10], 0⟩ := by
    unfold Tok.shift
    simp only [Tok.mk.injEq, true_and, and_true]
    omega
  rw [e] at h1
  exact h1
theorem Sx.fin {T q : List UInt8} {ts : List Tok} (s : Sx [] T ts q []) (hl : T.length ≤ 262144) : scanF T = .ok (ts ++ [endT T]) := by
  have e : q = T := by have := s.1; simpa using this.symm
  have h := s.2
  rw [e] at h
  exact Sc.okF (by simpa using h) hl
theorem parse_of {T : List UInt8} {ts : List Tok} (h : scanF T = .ok (ts ++ [endT T])) : parseF T = parseE (words ts ++ [endT T]) ∧ Ends (words ts ++ [endT T]) := by
  have he := ((scan_ends h).resolve_right id).1
  have e : (ts ++ [endT T]).filter (fun t => !lineT t) = words ts ++ [endT T] := by
    rw [← show words (ts ++ [endT T]) = (ts ++ [endT T]).filter (fun t => !lineT t) from rfl, words_append]
    rfl
  rw [e] at he
  refine ⟨?_, he⟩
  unfold parseF
  rw [h]
  show parseE ((ts ++ [endT T]).filter _) = _
  rw [e]
theorem Ok.top {s s' : St} {n : Int} (h : Ok .un 0 s (n, s')) (hs : Stops s'.l) : Ok (.row true) 0 s (n, s') := by
  have e : ∀ o, isS (signO o) s' = false := fun o => hs o s'.made s'.f
  have h1 : Ok (.row false) 0 s (n, s') := Ok.row (o := false) (y := (n, s')) h (.stop (e false))
  exact Ok.row (o := true) (y := (n, s')) h1 (.stop (e true))
theorem Fl.top {s : St} {e : Er} (h : Fl .un 0 s e) : Fl (.row true) 0 s e := Fl.row1 (o := true) (Fl.row1 (o := false) h)
end Go.Ab.S6
namespace Go.Ab.S6
set_option linter.unusedVariables false
set_option linter.unusedSimpArgs false
variable {α : Type} {h : H}
structure Bd (n0 : Nat) (h : H) (b : Ad) (l : List UInt8) : Prop where
  off : b.off = 0
  lt : b.id < h.next
  new : n0 ≤ b.id
  blk : ∃ p s, h.get b.id = some (.cellsT 42 true [p, .slice s]) ∧ (p = .ptr none ∨ p = .ptr (some b)) ∧
    ((l = [] ∧ s = Sl.nil) ∨ (l ≠ [] ∧ s.len = l.length ∧ s.loose = some 1 ∧ ∃ a, s.ad = some a ∧ a.off = 0 ∧ a.id < h.next ∧ n0 ≤ a.id ∧ a.id ≠ b.id ∧ h.get a.id = some (.cellsT 5 false (toBytes l))))
theorem copyCheck_run {b : Ad} {p v : V} (hg : h.get b.id = some (.cellsT 42 true [p, v])) (ho : b.off = 0) (hp : p = .ptr none ∨ p = .ptr (some b)) :
    ∃ h', (∀ (α : Type) (K : M α), copyCheckF 42 b K h = K h') ∧ h'.get b.id = some (.cellsT 42 true [.ptr (some b), v]) ∧ (∀ i, i ≠ b.id → h'.get i = h.get i) ∧ h'.next = h.next := by
  rcases hp with rfl | rfl
  · refine ⟨h.put b.id (some (.cellsT 42 true [.ptr (some b), v])), fun α K => ?_, put_get h _ _, fun i hi => put_ne h _ hi, rfl⟩
    unfold copyCheckF
    rw [hg]
    simp [ho]
  · refine ⟨h, fun α K => ?_, hg, fun _ _ => rfl, rfl⟩
    unfold copyCheckF
    rw [hg]
    simp [ho]
theorem ldS_typed {b : Ad} {p : V} {s : Sl} (hg : h.get b.id = some (.cellsT 42 true [p, .slice s])) (ho : b.off = 0) (K : Sl → M α) : ldS ((b.add 1).add 0) K h = K s h := by
  unfold ldS ld
  have : h.cell ((b.add 1).add 0) = some (.slice s) := by
    unfold H.cell
    simp [Ad.add, hg, ho]
  rw [this]
  rfl
theorem st_typed {b : Ad} {p v : V} {s : Sl} (hg : h.get b.id = some (.cellsT 42 true [p, v])) (ho : b.off = 0) (K : M α) : st1 ((b.add 1).add 0) (.slice s) K h = K (h.put b.id (some (.cellsT 42 true [p, .slice s]))) := by
  unfold st1
  have : h.setCell ((b.add 1).add 0) (.slice s) = some (h.put b.id (some (.cellsT 42 true [p, .slice s]))) := by
    unfold H.setCell
    simp [Ad.add, hg, ho, oneV]
    rfl
  rw [this]
def Plain (h h' : H) : Prop := h.next ≤ h'.next ∧ ∀ i cs o, i < h.next → h.get i = some (.cells cs o) → h'.get i = some (.cells cs o)
theorem Plain.refl (h : H) : Plain h h := ⟨Nat.le_refl _, fun _ _ _ _ g => g⟩
theorem Plain.trans {a b c : H} (x : Plain a b) (y : Plain b c) : Plain a c := ⟨Nat.le_trans x.1 y.1, fun i cs o hi g => y.2 i cs o (Nat.lt_of_lt_of_le hi x.1) (x.2 i cs o hi g)⟩
theorem Ext.plain {a b : H} (x : Ext a b) : Plain a b := ⟨x.1, fun i cs o hi g => by rw [x.2 i hi]; exact g⟩
theorem ws_run (k : Nat) {n0 : Nat} {b : Ad} {l : List UInt8} (B : Bd n0 h b l) (x : List UInt8) (hx : l.length + x.length ≤ 1000000000) :
    ∃ h', (∀ (α : Type) (ret : Int → V → M α), strings_Builder_WriteString.f (k + 2) b x ret h = ret (x.length : Int) .nilIface h') ∧ Bd n0 h' b (l ++ x) ∧ (∀ i, i < n0 → h'.get i = h.get i) ∧ Plain h h' := by
  obtain ⟨p, s, hg, hp, hl⟩ := B.blk
  obtain ⟨h1, e1, g1, o1, n1⟩ := copyCheck_run hg B.off hp
  have start : ∀ (α : Type) (ret : Int → V → M α), strings_Builder_WriteString.f (k + 2) b x ret h = appStrT 5 s x (fun x5 => st1 ((b.add 1).add 0) (.slice x5) <| ret (x.length : Int) .nilIface) h1 := by
    intro α ret
    rewrite [strings_Builder_WriteString.f, strings_Builder_WriteString.u1.f, builder_copyCheck.f, e1]
    exact ldS_typed g1 B.off _
  by_cases h0 : x = []
  · subst h0
    refine ⟨h1.put b.id (some (.cellsT 42 true [.ptr (some b), .slice s])), fun α ret => (start α ret).trans ?_, ⟨B.off, by show b.id < h1.next; rw [n1]; exact B.lt, B.new, .ptr (some b), s, put_get _ _ _, .inr rfl, ?_⟩, fun i hi => ?_, by show h.next ≤ h1.next; rw [n1]; exact Nat.le_refl _, fun i cs o hi g => ?_⟩
    · unfold appStrT
      exact st_typed g1 B.off _
    · rw [List.append_nil]
      refine hl.imp id fun ⟨q1, q2, q3, a, q4, q5, q6, q7, q8, q9⟩ => ⟨q1, q2, q3, a, q4, q5, by show a.id < h1.next; rw [n1]; exact q6, q7, q8, by rw [put_ne _ _ q8, o1 _ q8]; exact q9⟩
    · have : i ≠ b.id := by have := B.new; omega
      rw [put_ne _ _ this, o1 _ this]
    · have : i ≠ b.id := by rintro rfl; rw [hg] at g; cases g
      rw [put_ne _ _ this, o1 _ this]; exact g
  · have hxl : Nat.beq x.length 0 = false := beq_ne (by cases x <;> simp_all)
    have hb : Nat.ble (s.len + x.length + (s.len + x.length) / 4 + 512) 281474976710656 = true := by
      apply Nat.ble_eq_true_of_le
      rcases hl with ⟨_, rfl⟩ | ⟨_, q2, _⟩
      · show 0 + x.length + (0 + x.length) / 4 + 512 ≤ _; omega
      · omega
    -- the bytes' new block
    have fin : ∀ (h2 : H) (s' : Sl), (∀ (α : Type) (K : Sl → M α), appStrT 5 s x K h1 = K s' h2) → h2.next = h1.next + 1 → h2.get b.id = h1.get b.id → (∀ i, i < n0 → h2.get i = h1.get i) → s' = ⟨some ⟨h1.next, 0⟩, (l ++ x).length, (l ++ x).length, some 1⟩ → h2.get h1.next = some (.cellsT 5 false (toBytes (l ++ x))) → (∀ i cs o, i < h1.next → h1.get i = some (.cells cs o) → h2.get i = some (.cells cs o)) →
        ∃ h', (∀ (α : Type) (ret : Int → V → M α), strings_Builder_WriteString.f (k + 2) b x ret h = ret (x.length : Int) .nilIface h') ∧ Bd n0 h' b (l ++ x) ∧ (∀ i, i < n0 → h'.get i = h.get i) ∧ Plain h h' := by
      intro h2 s' ea en eb ei es eg ep
      have hbl := B.lt
      have hbn := B.new
      refine ⟨h2.put b.id (some (.cellsT 42 true [.ptr (some b), .slice s'])), fun α ret => (start α ret).trans ?_, ⟨B.off, by show b.id < h2.next; omega, B.new, .ptr (some b), s', put_get _ _ _, .inr rfl, .inr ⟨?_, by rw [es], by rw [es], ⟨h1.next, 0⟩, by rw [es], rfl, by show h1.next < h2.next; omega, by show n0 ≤ h1.next; omega, by show h1.next ≠ b.id; omega, ?_⟩⟩, fun i hi => ?_, by show h.next ≤ h2.next; omega, fun i cs o hi g => ?_⟩
      · rw [ea]
        exact st_typed (eb.trans g1) B.off _
      · intro hh
        exact h0 (List.append_eq_nil_iff.1 hh).2
      · show (h2.put b.id _).get h1.next = _
        rw [put_ne _ _ (by omega)]
        exact eg
      · have : i ≠ b.id := by omega
        rw [put_ne _ _ this, ei i hi, o1 _ this]
      · have : i ≠ b.id := by rintro rfl; rw [hg] at g; cases g
        rw [put_ne _ _ this]
        exact ep i cs o (by omega) (by rw [o1 _ this]; exact g)
    have hbl := B.lt
    rcases hl with ⟨rfl, rfl⟩ | ⟨q1, q2, q3, a, q4, q5, q6, q7, q8, q9⟩
    · refine fin (h1.push (.cellsT 5 false (toBytes x))) _ (fun α K => ?_) rfl (by rw [push_get, if_neg (by omega)]) (fun i hi => by have := B.new; rw [push_get, if_neg (by omega)]) rfl (by rw [push_get, if_pos rfl]; rfl) (fun i cs o hi g => by rw [push_get, if_neg (by omega)]; exact g)
      unfold appStrT
      rw [hxl, hb]
      simp only [cond_false, cond_true, Sl.nil, Nat.zero_add, List.nil_append]
    · have g2 : h1.get a.id = some (.cellsT 5 false (toBytes l)) := by rw [o1 _ q8]; exact q9
      refine fin ((h1.put a.id none).push (.cellsT 5 false (toBytes l ++ toBytes x))) _ (fun α K => ?_) rfl ?_ (fun i hi => ?_) rfl ?_ (fun i cs o hi g => ?_)
      · unfold appStrT
        rw [hxl, hb, q4]
        simp only [cond_false, cond_true]
        rw [g2]
        simp [q5, q2, q3, toBytes]
      · rw [push_get, if_neg (by show b.id ≠ h1.next; omega), put_ne _ _ (Ne.symm q8)]
      · rw [push_get, if_neg (by show i ≠ h1.next; omega), put_ne _ _ (by omega)]
      · rw [push_get, if_pos (show h1.next = (h1.put a.id none).next from rfl)]
        simp [toBytes]
      · have : i ≠ a.id := by rintro rfl; rw [g2] at g; cases g
        rw [push_get, if_neg (by show i ≠ h1.next; omega), put_ne _ _ this]; exact g
theorem bs_run (k : Nat) {n0 : Nat} {b : Ad} {l : List UInt8} (B : Bd n0 h b l) (hl : l.length ≤ 1000000000) :
    ∃ h', (∀ (α : Type) (ret : List UInt8 → M α), builder_String.f (k + 1) b ret h = ret l h') ∧ (∀ i, i < n0 → h'.get i = h.get i) ∧ h.next ≤ h'.next := by
  obtain ⟨p, s, hg, hp, hs⟩ := B.blk
  rcases hs with ⟨rfl, rfl⟩ | ⟨q1, q2, q3, a, q4, q5, q6, q7, q8, q9⟩
  · refine ⟨h, fun α ret => ?_, fun _ _ => rfl, Nat.le_refl _⟩
    rw [builder_String.f]
    unfold stringF
    rw [hg]
    simp [B.off, Sl.nil]
  · refine ⟨h.put a.id none, fun α ret => ?_, fun i hi => put_ne h _ (by omega), Nat.le_refl _⟩
    have hpos : 0 < l.length := List.length_pos_iff.2 q1
    rw [builder_String.f]
    unfold stringF
    rw [hg]
    dsimp only
    rw [B.off, q4]
    dsimp only
    rw [q9]
    dsimp only
    rw [q5, q2, show (toBytes l).length = l.length by simp [toBytes], show Nat.blt 0 l.length = true from Nat.ble_eq_true_of_le hpos, Nat.ble_eq_true_of_le (by omega : l.length ≤ 281474976710656), bytesT_to]
    simp
end Go.Ab.S6
namespace Go.Ab.S6
set_option linter.unusedVariables false
set_option linter.unusedSimpArgs false
variable {α : Type} {h : H}
def Tr.kind : Tr → Int
  | .leaf k _ _ => k
  | .un k _ _ _ => k
  | .bin k _ _ _ _ => k
def brk (over k : Int) (first : Bool) : Bool :=
  cond (fixK over) false (cond (fixK k) true (cond (decide (k = 7)) (!decide (over = 7) || !first) (cond (decide (k = 6)) (!decide (over = 7) && (!decide (over = 6) || !first)) false)))
def headP (k : Int) (s : List UInt8) : List UInt8 :=
  if k = 1 then [116, 116] else if k = 2 then [102, 102] else if k = 5 then [126] else if k = 8 then [60] ++ s ++ [62] else if k = 9 then [91] ++ s ++ [93] else if k = 10 then [109, 117, 32] ++ s ++ [46, 32] else if k = 11 then [110, 117, 32] ++ s ++ [46, 32] else s
def paren (b : Bool) (l : List UInt8) : List UInt8 := if b = true then [40] ++ l ++ [41] else l
def prT : Tr → List UInt8
  | .leaf k s _ => headP k s
  | .un k s _ a => headP k s ++ paren (brk k a.kind true) (prT a)
  | .bin k s _ a b => paren (brk k a.kind true) (prT a) ++ ((if k = 7 then [32, 124, 32] else [32, 38, 32]) ++ paren (brk k b.kind false) (prT b))
theorem sfix_run (k : Nat) (x : Int) (ret : Bool → M α) : syntax_fix.f (k + 1) x ret h = ret (fixK x) h := by
  rw [syntax_fix.f]
  unfold syntax_fix.u1.f fixK
  cases decide (x = 10) <;> rfl
theorem operand_run (k : Nat) {b : Ad} {f : Sl} {l : List Nd} {h₀ : H} (r : NdR h₀ f l) {i : Nat} {n : Nd} (hn : l[i]? = some n) {w : List UInt8} {N : Nat} (hN : w.length ≤ N)
    (W : ∀ (h : H) (acc : List UInt8), Ext h₀ h → Bd h₀.next h b acc → acc.length + N ≤ 900000000 → ∃ h', (∀ (α : Type) (K : M α), syntax_write.f (k + 2) b f (i : Int) K h = K h') ∧ Ext h₀ h' ∧ Bd h₀.next h' b (acc ++ w) ∧ Plain h h')
    (over : Int) (first : Bool) (h : H) (acc : List UInt8) (x : Ext h₀ h) (B : Bd h₀.next h b acc) (hl : acc.length + N + 2 ≤ 900000000) :
    ∃ h', (∀ (α : Type) (K : M α), syntax_operand.f (k + 3) b f (i : Int) over first K h = K h') ∧ Ext h₀ h' ∧ Bd h₀.next h' b (acc ++ paren (brk over n.kind first) w) ∧ Plain h h' := by
  have ext : ∀ {h1 h2 : H}, Ext h₀ h1 → (∀ q, q < h₀.next → h2.get q = h1.get q) → h1.next ≤ h2.next → Ext h₀ h2 := fun y hg hn => ⟨Nat.le_trans y.1 hn, fun q hq => by rw [hg q hq]; exact y.2 q hq⟩
  cases hb : brk over n.kind first with
  | false =>
    obtain ⟨h', e, x', B', p'⟩ := W h acc x B (by omega)
    refine ⟨h', fun α K => ?_, x', by simpa [paren] using B', p'⟩
    have fx : ∀ (K : Bool → M α), syntax_fix.f (k + 2) n.kind K = K (fixK n.kind) := fun K => funext fun _ => sfix_run _ _ _
    rw [syntax_operand.f, syntax_operand.u1.f, nd_kind (r.ext x) rfl hn, sfix_run, fx]
    unfold brk at hb
    revert hb
    cases fixK over <;> cases fixK n.kind <;> cases decide (n.kind = 7) <;> cases decide (over = 7) <;> cases decide (n.kind = 6) <;> cases decide (over = 6) <;> cases first <;> intro hb <;> first | (cases hb; done) | exact e α K
  | true =>
    obtain ⟨h1, e1, B1, g1, n1⟩ := ws_run k B [40] (by simp; omega)
    have x1 := ext x g1 n1.1
    obtain ⟨h2, e2, x2, B2, p2⟩ := W h1 _ x1 B1 (by simp; omega)
    obtain ⟨h3, e3, B3, g3, n3⟩ := ws_run k B2 [41] (by simp; omega)
    have e : ∀ (α : Type) (K : M α), (strings_Builder_WriteString.f (k + 2) b [40] fun _ _ => syntax_write.f (k + 2) b f (i : Int) (strings_Builder_WriteString.f (k + 2) b [41] fun _ _ => K)) h = K h3 := by
      intro α K
      rw [e1, e2, e3]
    refine ⟨h3, fun α K => ?_, ext x2 g3 n3.1, by simpa [paren] using B3, (n1.trans p2).trans n3⟩
    have fx : ∀ (K : Bool → M α), syntax_fix.f (k + 2) n.kind K = K (fixK n.kind) := fun K => funext fun _ => sfix_run _ _ _
    rw [syntax_operand.f, syntax_operand.u1.f, nd_kind (r.ext x) rfl hn, sfix_run, fx]
    unfold brk at hb
    revert hb
    cases fixK over <;> cases fixK n.kind <;> cases decide (n.kind = 7) <;> cases decide (over = 7) <;> cases decide (n.kind = 6) <;> cases decide (over = 6) <;> cases first <;> intro hb <;> first | (cases hb; done) | exact e α K
end Go.Ab.S6
namespace Go.Ab.S6
set_option linter.unusedVariables false
set_option linter.unusedSimpArgs false
abbrev KTx := Int × List UInt8
def kt (t : Tok) : KTx := (t.kind, t.text)
def KT (l : List Tok) : List KTx := l.map kt
def sgK (c : UInt8) : KTx := (5, [c])
def actK (s : List UInt8) : KTx := if s = [45] then (5, s) else (2, s)
def parK (b : Bool) (l : List KTx) : List KTx := if b = true then sgK 40 :: (l ++ [sgK 41]) else l
def headK (k : Int) (s : List UInt8) : List KTx :=
  if k = 1 then [(2, [116, 116])] else if k = 2 then [(2, [102, 102])] else if k = 5 then [sgK 126] else if k = 8 then [sgK 60, actK s, sgK 62] else if k = 9 then [sgK 91, actK s, sgK 93] else
  if k = 10 then [(2, [109, 117]), (3, s), sgK 46] else if k = 11 then [(2, [110, 117]), (3, s), sgK 46] else if k = 4 then [(3, s)] else [(2, s)]
def tkT : Tr → List KTx
  | .leaf k s _ => headK k s
  | .un k s _ a => headK k s ++ parK (brk k a.kind true) (tkT a)
  | .bin k s _ a b => parK (brk k a.kind true) (tkT a) ++ (sgK (if k = 7 then 124 else 38) :: parK (brk k b.kind false) (tkT b))
theorem kt_cons {L : List Tok} {x : KTx} {l : List KTx} (h : KT L = x :: l) : ∃ t L', L = t :: L' ∧ t.kind = x.1 ∧ t.text = x.2 ∧ KT L' = l := by
  cases L with
  | nil => cases h
  | cons t L' =>
    simp only [KT, List.map_cons, List.cons.injEq, kt] at h
    exact ⟨t, L', rfl, by rw [← h.1], by rw [← h.1], h.2⟩
theorem kt_app {L : List Tok} {a b : List KTx} (h : KT L = a ++ b) : ∃ L1 L2, L = L1 ++ L2 ∧ KT L1 = a ∧ KT L2 = b := by
  obtain ⟨L1, L2, h1, h2, h3⟩ := List.map_eq_append_iff.1 h
  exact ⟨L1, L2, h1, h2, h3⟩
theorem kt_nil {L : List Tok} (h : KT L = []) : L = [] := by
  cases L with
  | nil => rfl
  | cons t L => cases h
theorem isS_kt {t : Tok} {c : UInt8} {r : List Tok} {m : Nat} {f : List Nd} (hk : t.kind = (sgK c).1) (ht : t.text = (sgK c).2) : isS [c] ⟨t :: r, m, f⟩ = true := by
  have hk : t.kind = 5 := hk
  have ht : t.text = [c] := ht
  show (decide (t.kind = 5) && decide (t.text = [c])) = true
  rw [dT hk, dT ht]
  rfl
def Tr.np : Tr → Tr
  | .leaf k s _ => .leaf k s 0
  | .un k s _ a => .un k s 0 a.np
  | .bin k s _ a b => .bin k s 0 a.np b.np
theorem np_size : ∀ t : Tr, t.np.size = t.size
  | .leaf _ _ _ => rfl
  | .un _ _ _ a => by simp [Tr.np, Tr.size, np_size a]
  | .bin _ _ _ a b => by simp [Tr.np, Tr.size, np_size a, np_size b]
theorem np_kind : ∀ t : Tr, t.np.kind = t.kind
  | .leaf _ _ _ => rfl
  | .un _ _ _ a => rfl
  | .bin _ _ _ a b => rfl
theorem prT_np : ∀ t : Tr, prT t.np = prT t
  | .leaf _ _ _ => rfl
  | .un k s p a => by simp only [Tr.np, prT, prT_np a, np_kind]
  | .bin k s p a b => by simp only [Tr.np, prT, prT_np a, prT_np b, np_kind]
theorem np_flat : ∀ (t : Tr) (base : Nat), t.np.flat base = (t.flat base).map (fun n => { n with pos := 0 })
  | .leaf _ _ _, base => rfl
  | .un k s p a, base => by simp [Tr.np, Tr.flat, np_flat a, Tr.node, np_size]
  | .bin k s p a b, base => by simp [Tr.np, Tr.flat, np_flat a, np_flat b, Tr.node, np_size]
theorem size_np {t u : Tr} (h : t.np = u.np) : t.size = u.size := by rw [← np_size t, h, np_size]
def Mk (m : Nat) (f : List Nd) (t : Tr) (rest : List Tok) : St := ⟨rest, m + t.size, f ++ t.flat f.length⟩
def rt (f : List Nd) (t : Tr) : Int := ((f.length + t.size - 1 : Nat) : Int)
def RUn (t : Tr) (l : List KTx) (P : List Tok → Prop) : Prop := ∀ (L rest : List Tok) (m : Nat) (f : List Nd), KT L = l → P rest → m + t.size ≤ 60 → ∃ t' : Tr, t'.np = t.np ∧ Ok .un 0 ⟨L ++ rest, m, f⟩ (rt f t', Mk m f t' rest)
def RAnd (t : Tr) (l : List KTx) : Prop := ∀ (L rest : List Tok) (m : Nat) (f : List Nd), KT L = l → m + t.size ≤ 60 → ∃ t' : Tr, t'.np = t.np ∧ ∀ z, Ok (.loop false) (rt f t') (Mk m f t' rest) z → Ok (.row false) 0 ⟨L ++ rest, m, f⟩ z
def NoAnd (rest : List Tok) : Prop := ∀ m f, isS [38] ⟨rest, m, f⟩ = false
def ROr (t : Tr) (l : List KTx) : Prop := ∀ (L rest : List Tok) (m : Nat) (f : List Nd), KT L = l → NoAnd rest → m + t.size ≤ 60 → ∃ t' : Tr, t'.np = t.np ∧ ∀ z, Ok (.loop true) (rt f t') (Mk m f t' rest) z → Ok (.row true) 0 ⟨L ++ rest, m, f⟩ z
def RFull (t : Tr) (l : List KTx) : Prop := ∀ (L rest : List Tok) (m : Nat) (f : List Nd), KT L = l → Stops rest → m + t.size ≤ 60 → ∃ t' : Tr, t'.np = t.np ∧ Ok (.row true) 0 ⟨L ++ rest, m, f⟩ (rt f t', Mk m f t' rest)
def Any (_ : List Tok) : Prop := True
theorem and_un {t : Tr} {l : List KTx} (h : RUn t l Any) : RAnd t l := fun L rest m f hl hm => by
  obtain ⟨t', h1, h2⟩ := h L rest m f hl trivial hm
  exact ⟨t', h1, fun z hz => Ok.row (o := false) h2 hz⟩
theorem or_and {t : Tr} {l : List KTx} (h : RAnd t l) : ROr t l := fun L rest m f hl hr hm => by
  obtain ⟨t', h1, h2⟩ := h L rest m f hl hm
  exact ⟨t', h1, fun z hz => Ok.row (o := true) (h2 _ (.stop (hr _ _))) hz⟩
theorem Stops.noAnd {rest : List Tok} (h : Stops rest) : NoAnd rest := fun m f => h false m f
theorem full_or {t : Tr} {l : List KTx} (h : ROr t l) : RFull t l := fun L rest m f hl hr hm => by
  obtain ⟨t', h1, h2⟩ := h L rest m f hl hr.noAnd hm
  exact ⟨t', h1, h2 _ (.stop (hr true _ _))⟩
theorem full_un {t : Tr} {l : List KTx} (h : RUn t l Stops) : RFull t l := fun L rest m f hl hr hm => by
  obtain ⟨t', h1, h2⟩ := h L rest m f hl hr hm
  exact ⟨t', h1, Ok.top h2 hr⟩
theorem stops_kt {t : Tok} (hk : t.kind = (sgK 41).1) (ht : t.text = (sgK 41).2) (r : List Tok) : Stops (t :: r) := by
  intro o m f
  have := isS_kt (r := r) (m := m) (f := f) hk ht
  exact isS_ne this (by cases o <;> decide)
theorem un_full {t : Tr} {l : List KTx} (h : RFull t l) : RUn t (parK true l) Any := fun L rest m f hl _ hm => by
  unfold parK at hl
  rw [if_pos rfl] at hl
  obtain ⟨o, L', rfl, ho1, ho2, hl⟩ := kt_cons hl
  obtain ⟨L1, L2, rfl, h1, h2⟩ := kt_app hl
  obtain ⟨c, L3, rfl, hc1, hc2, h3⟩ := kt_cons h2
  obtain rfl := kt_nil h3
  obtain ⟨t', g1, g2⟩ := h L1 (c :: rest) m f h1 (stops_kt hc1 hc2 rest) hm
  refine ⟨t', g1, ?_⟩
  have := Ok.par (a := 0) (y := (rt f t', Mk m f t' (c :: rest))) (s := ⟨o :: (L1 ++ [c]) ++ rest, m, f⟩) (isS_kt ho1 ho2) (by
    show Ok (.row true) 0 ⟨(L1 ++ [c]) ++ rest, m, f⟩ _
    rw [List.append_assoc]
    exact g2) (isS_kt hc1 hc2)
  exact this
theorem Mk_len (m : Nat) (f : List Nd) (t : Tr) (rest : List Tok) : (Mk m f t rest).f.length = f.length + t.size := by
  show (f ++ t.flat f.length).length = _
  rw [List.length_append, flat_length]
theorem lay_un (m : Nat) (f : List Nd) (t : Tr) (rest : List Tok) (k : Int) (s : List UInt8) (p : Int) : layE ⟨k, rt f t, 0, s, p⟩ (Mk (m + 1) f t rest) = (rt f (.un k s p t), Mk m f (.un k s p t) rest) := by
  have hp := Tr.pos t
  unfold layE
  rw [Mk_len]
  simp only [Mk, rt, Tr.size, Tr.flat, Tr.node, Prod.mk.injEq, St.mk.injEq, List.append_assoc, true_and]
  exact ⟨by omega, by omega, trivial⟩
theorem lay_bin (m : Nat) (f : List Nd) (t u : Tr) (rest rest' : List Tok) (k : Int) (p : Int) : layE ⟨k, rt f t, rt (Mk m f t rest').f u, [], p⟩ (Mk (m + t.size + 1) (Mk m f t rest').f u rest) = (rt f (.bin k [] p t u), Mk m f (.bin k [] p t u) rest) := by
  have hp := Tr.pos t
  have hu := Tr.pos u
  unfold layE
  rw [Mk_len, Mk_len]
  simp only [Mk, rt, Tr.size, Tr.flat, Tr.node, Prod.mk.injEq, St.mk.injEq, List.append_assoc, true_and, List.length_append, flat_length]
  exact ⟨by omega, by omega, trivial⟩
theorem lay_leaf (m : Nat) (f : List Nd) (rest : List Tok) (k : Int) (s : List UInt8) (p : Int) : layE ⟨k, 0, 0, s, p⟩ ⟨rest, m + 1, f⟩ = (rt f (.leaf k s p), Mk m f (.leaf k s p) rest) := by
  simp [layE, Mk, rt, Tr.size, Tr.flat, Tr.node]
theorem un_not {s : List UInt8} {p : Int} {a : Tr} (hs : s = []) {l : List KTx} (h : RUn a l Any) : RUn (.un 5 s p a) (sgK 126 :: l) Any := fun L rest m f hl _ hm => by
  subst hs
  simp only [Tr.size] at hm
  obtain ⟨o, L', rfl, ho1, ho2, hl⟩ := kt_cons hl
  obtain ⟨t', g1, g2⟩ := h L' rest (m + 1) f hl trivial (by omega)
  have hsz := size_np g1
  refine ⟨.un 5 [] o.pos t', by simp only [Tr.np, g1], ?_⟩
  have := Ok.not (a := 0) (s := ⟨o :: L' ++ rest, m, f⟩) (isS_kt ho1 ho2) (by show m ≠ 60; omega) g2
  rw [lay_un] at this
  exact this
theorem un_modal {k : Int} {g g' : UInt8} {s : List UInt8} {p : Int} {a : Tr} (hg : (g = 60 ∧ g' = 62 ∧ k = 8) ∨ (g = 91 ∧ g' = 93 ∧ k = 9)) (hs : (decide (s = [45]) || nameF s) = true) {l : List KTx} (h : RUn a l Any) :
    RUn (.un k s p a) ([sgK g, actK s, sgK g'] ++ l) Any := fun L rest m f hl _ hm => by
  simp only [Tr.size] at hm
  obtain ⟨o, L1, rfl, ho1, ho2, hl⟩ := kt_cons hl
  obtain ⟨x, L2, rfl, hx1, hx2, hl⟩ := kt_cons hl
  obtain ⟨c, L3, rfl, hc1, hc2, hl⟩ := kt_cons hl
  obtain ⟨t', g1, g2⟩ := h L3 rest (m + 1) f hl trivial (by omega)
  have hsz := size_np g1
  refine ⟨.un k s o.pos t', by simp only [Tr.np, g1], ?_⟩
  have hx : x.text = s := by rw [hx2]; unfold actK; split <;> rfl
  have hstep : stepE [g'] ⟨x :: c :: L3 ++ rest, m + 1, f⟩ = .ok (s, ⟨L3 ++ rest, m + 1, f⟩) := by
    unfold stepE
    have hc : isS [45] ⟨x :: c :: L3 ++ rest, m + 1, f⟩ = true ∨ ((⟨x :: c :: L3 ++ rest, m + 1, f⟩ : St).hd.kind = 2 ∧ wordsF (⟨x :: c :: L3 ++ rest, m + 1, f⟩ : St).hd.text = false) := by
      by_cases h45 : s = [45]
      · left
        have hx5 : x.kind = 5 := by rw [hx1]; unfold actK; rw [if_pos h45]
        have hxt : x.text = [45] := by rw [hx, h45]
        show (decide (x.kind = 5) && decide (x.text = [45])) = true
        rw [dT hx5, dT hxt]
        rfl
      · right
        rw [dF h45, Bool.false_or] at hs
        unfold nameF at hs
        rw [Bool.and_eq_true] at hs
        refine ⟨?_, ?_⟩
        · show x.kind = 2
          rw [hx1]; unfold actK; rw [if_neg h45]
        · show wordsF x.text = false
          rw [hx]; simpa using hs.2
    rw [if_pos hc]
    unfold needE
    rw [if_pos (show isS [g'] (St.adv ⟨x :: c :: L3 ++ rest, m + 1, f⟩) = true from isS_kt hc1 hc2)]
    show Except.ok (x.text, _) = _
    rw [hx]
    rfl
  have := Ok.modal (k := k) (g := [g]) (g' := [g']) (x := s) (a := 0) (s := ⟨o :: x :: c :: L3 ++ rest, m, f⟩) (by rcases hg with ⟨rfl, rfl, rfl⟩ | ⟨rfl, rfl, rfl⟩; exact .inl ⟨rfl, rfl, rfl⟩; exact .inr ⟨rfl, rfl, rfl⟩) (isS_kt ho1 ho2) (by show m ≠ 60; omega) hstep g2
  rw [lay_un] at this
  exact this
theorem un_fix {k : Int} {w s : List UInt8} {p : Int} {a : Tr} (hk : (w = [109, 117] ∧ k = 10) ∨ (w = [110, 117] ∧ k = 11)) {l : List KTx} (h : RFull a l) :
    RUn (.un k s p a) ([(2, w), (3, s), sgK 46] ++ l) Stops := fun L rest m f hl hr hm => by
  simp only [Tr.size] at hm
  obtain ⟨o, L1, rfl, ho1, ho2, hl⟩ := kt_cons hl
  obtain ⟨x, L2, rfl, hx1, hx2, hl⟩ := kt_cons hl
  obtain ⟨c, L3, rfl, hc1, hc2, hl⟩ := kt_cons hl
  obtain ⟨t', g1, g2⟩ := h L3 rest (m + 1) f hl hr (by omega)
  have hsz := size_np g1
  refine ⟨.un k s o.pos t', by simp only [Tr.np, g1], ?_⟩
  have := Ok.fix (a := 0) (s := ⟨o :: x :: c :: L3 ++ rest, m, f⟩) (by show o.kind = 2; exact ho1) (by show m ≠ 60; omega) (by show o.text = _ ∨ o.text = _; rw [ho2]; exact hk.imp (fun h => h.1) (fun h => h.1)) (by show x.kind = 3; exact hx1) (isS_kt hc1 hc2) g2
  have e : (if (⟨o :: x :: c :: L3 ++ rest, m, f⟩ : St).hd.text = [109, 117] then 10 else 11) = k := by
    show (if o.text = [109, 117] then 10 else 11) = k
    rw [ho2]
    rcases hk with ⟨rfl, rfl⟩ | ⟨rfl, rfl⟩ <;> rfl
  rw [e] at this
  have e2 : (St.adv ⟨o :: x :: c :: L3 ++ rest, m, f⟩).hd.text = s := hx2
  rw [e2, lay_un] at this
  exact this
theorem un_leaf {k : Int} {s : List UInt8} {p : Int} (h0 : arF k = 0) (hn : namedF k s = true) : RUn (.leaf k s p) (headK k s) Any := fun L rest m f hl _ hm => by
  simp only [Tr.size] at hm
  have hk : k = 1 ∨ k = 2 ∨ k = 3 ∨ k = 4 := by
    unfold arF at h0
    split at h0
    · assumption
    split at h0
    · omega
    split at h0 <;> omega
  have fin : ∀ (o : Tok) (L' : List Tok), L = o :: L' → KT L' = [] → o.kind = 2 → o.text ≠ [109, 117] ∧ o.text ≠ [110, 117] → (if o.text = [116, 116] then 1 else if o.text = [102, 102] then 2 else 3) = k → (if o.text = [116, 116] ∨ o.text = [102, 102] then [] else o.text) = s →
      ∃ t' : Tr, t'.np = (Tr.leaf k s p).np ∧ Ok .un 0 ⟨L ++ rest, m, f⟩ (rt f t', Mk m f t' rest) := by
    intro o L' hL hL' ho hne hk hs
    subst hL
    obtain rfl := kt_nil hL'
    refine ⟨.leaf k s o.pos, rfl, ?_⟩
    have := Ok.leaf (a := 0) (s := ⟨[o] ++ rest, m, f⟩) ho (by show m ≠ 60; omega) hne
    rw [show (⟨[o] ++ rest, m, f⟩ : St).hd = o from rfl, hk, hs] at this
    rw [← lay_leaf]
    exact this
  rcases hk with rfl | rfl | rfl | rfl
  · obtain ⟨o, L', hL, ho1, ho2, hl⟩ := kt_cons (show KT L = (2, [116, 116]) :: [] from hl)
    have hs : s = [] := of_decide_eq_true hn
    exact fin o L' hL hl ho1 (by rw [ho2]; decide) (by rw [ho2]; rfl) (by rw [ho2, hs]; rfl)
  · obtain ⟨o, L', hL, ho1, ho2, hl⟩ := kt_cons (show KT L = (2, [102, 102]) :: [] from hl)
    have hs : s = [] := of_decide_eq_true hn
    exact fin o L' hL hl ho1 (by rw [ho2]; decide) (by rw [ho2]; rfl) (by rw [ho2, hs]; rfl)
  · obtain ⟨o, L', hL, ho1, ho2, hl⟩ := kt_cons (show KT L = (2, s) :: [] from hl)
    have hw : wordsF s = false := by
      have : nameF s = true := hn
      unfold nameF at this
      rw [Bool.and_eq_true] at this
      simpa using this.2
    unfold wordsF at hw
    simp only [Bool.or_eq_false_iff, decide_eq_false_iff_not] at hw
    obtain ⟨⟨⟨w1, w2⟩, w3⟩, w4⟩ := hw
    have ho2 : o.text = s := ho2
    exact fin o L' hL hl ho1 (by rw [ho2]; exact ⟨w3, w4⟩) (by rw [ho2, if_neg w1, if_neg w2]) (by rw [ho2, if_neg (by rintro (h | h); exact w1 h; exact w2 h)])
  · obtain ⟨o, L', hL, ho1, ho2, hl'⟩ := kt_cons (show KT L = (3, s) :: [] from hl)
    obtain rfl := kt_nil hl'
    subst hL
    refine ⟨.leaf 4 s o.pos, rfl, ?_⟩
    have := Ok.var (a := 0) (s := ⟨[o] ++ rest, m, f⟩) ho1 (by show m ≠ 60; omega)
    rw [show (⟨[o] ++ rest, m, f⟩ : St).hd = o from rfl, ho2] at this
    rw [← lay_leaf]
    exact this
theorem and_bin {p : Int} {s : List UInt8} {a b : Tr} (hs : s = []) {la lb : List KTx} (ha : RAnd a la) (hb : RUn b lb Any) : RAnd (.bin 6 s p a b) (la ++ (sgK 38 :: lb)) := fun L rest m f hl hm => by
  subst hs
  simp only [Tr.size] at hm
  obtain ⟨L1, L2, rfl, h1, h2⟩ := kt_app hl
  obtain ⟨o, L3, rfl, ho1, ho2, h3⟩ := kt_cons h2
  obtain ⟨a', a1, a2⟩ := ha L1 (o :: L3 ++ rest) m f h1 (by omega)
  have sa := size_np a1
  obtain ⟨b', b1, b2⟩ := hb L3 rest (m + a'.size + 1) (Mk m f a' rest).f h3 trivial (by omega)
  have sb := size_np b1
  refine ⟨.bin 6 [] o.pos a' b', by simp only [Tr.np, a1, b1], fun z hz => ?_⟩
  rw [List.append_assoc]
  refine a2 z (Ok.go (o := false) (isS_kt ho1 ho2) (by show m + a'.size ≠ 60; omega) b2 ?_)
  have e := lay_bin m f a' b' rest rest 6 o.pos
  show Ok (.loop false) (layE ⟨6, rt f a', rt (Mk m f a' rest).f b', [], o.pos⟩ (Mk (m + a'.size + 1) (Mk m f a' rest).f b' rest)).1 (layE ⟨6, rt f a', rt (Mk m f a' rest).f b', [], o.pos⟩ (Mk (m + a'.size + 1) (Mk m f a' rest).f b' rest)).2 z
  rw [e]
  exact hz
theorem or_bin {p : Int} {s : List UInt8} {a b : Tr} (hs : s = []) {la lb : List KTx} (ha : ROr a la) (hb : RAnd b lb) : ROr (.bin 7 s p a b) (la ++ (sgK 124 :: lb)) := fun L rest m f hl hr hm => by
  subst hs
  simp only [Tr.size] at hm
  obtain ⟨L1, L2, rfl, h1, h2⟩ := kt_app hl
  obtain ⟨o, L3, rfl, ho1, ho2, h3⟩ := kt_cons h2
  obtain ⟨a', a1, a2⟩ := ha L1 (o :: L3 ++ rest) m f h1 (fun m f => isS_ne (isS_kt (c := 124) ho1 ho2) (by decide)) (by omega)
  have sa := size_np a1
  obtain ⟨b', b1, b2⟩ := hb L3 rest (m + a'.size + 1) (Mk m f a' rest).f h3 (by omega)
  have sb := size_np b1
  refine ⟨.bin 7 [] o.pos a' b', by simp only [Tr.np, a1, b1], fun z hz => ?_⟩
  rw [List.append_assoc]
  refine a2 z (Ok.go (o := true) (isS_kt ho1 ho2) (by show m + a'.size ≠ 60; omega) (b2 _ (.stop (hr _ _))) ?_)
  have e := lay_bin m f a' b' rest rest 7 o.pos
  show Ok (.loop true) (layE ⟨7, rt f a', rt (Mk m f a' rest).f b', [], o.pos⟩ (Mk (m + a'.size + 1) (Mk m f a' rest).f b' rest)).1 (layE ⟨7, rt f a', rt (Mk m f a' rest).f b', [], o.pos⟩ (Mk (m + a'.size + 1) (Mk m f a' rest).f b' rest)).2 z
  rw [e]
  exact hz
structure Reads (t : Tr) : Prop where
  un : RUn t (parK (brk 5 t.kind true) (tkT t)) Any
  and : RAnd t (parK (brk 6 t.kind true) (tkT t))
  or : ROr t (parK (brk 7 t.kind true) (tkT t))
  full : RFull t (tkT t)
theorem tr_kinds {t : Tr} (h : t.ok = true) : t.kind = 1 ∨ t.kind = 2 ∨ t.kind = 3 ∨ t.kind = 4 ∨ t.kind = 5 ∨ t.kind = 6 ∨ t.kind = 7 ∨ t.kind = 8 ∨ t.kind = 9 ∨ t.kind = 10 ∨ t.kind = 11 := by
  have key : ∀ k : Int, 0 ≤ arF k → k = 1 ∨ k = 2 ∨ k = 3 ∨ k = 4 ∨ k = 5 ∨ k = 6 ∨ k = 7 ∨ k = 8 ∨ k = 9 ∨ k = 10 ∨ k = 11 := by
    intro k hk
    unfold arF at hk
    split at hk
    · omega
    split at hk
    · omega
    split at hk
    · omega
    · omega
  cases t with
  | leaf k s p => simp only [Tr.ok, Bool.and_eq_true, decide_eq_true_eq] at h; exact key k (by omega)
  | un k s p a => simp only [Tr.ok, Bool.and_eq_true, decide_eq_true_eq] at h; exact key k (by omega)
  | bin k s p a b => simp only [Tr.ok, Bool.and_eq_true, decide_eq_true_eq] at h; exact key k (by omega)
theorem Reads.plain {t : Tr} (hk : t.kind = 1 ∨ t.kind = 2 ∨ t.kind = 3 ∨ t.kind = 4 ∨ t.kind = 5 ∨ t.kind = 8 ∨ t.kind = 9) (h : RUn t (tkT t) Any) : Reads t := by
  have b5 : brk 5 t.kind true = false := by rcases hk with h | h | h | h | h | h | h <;> rw [h] <;> rfl
  have b6 : brk 6 t.kind true = false := by rcases hk with h | h | h | h | h | h | h <;> rw [h] <;> rfl
  have b7 : brk 7 t.kind true = false := by rcases hk with h | h | h | h | h | h | h <;> rw [h] <;> rfl
  refine ⟨?_, ?_, ?_, full_or (or_and (and_un h))⟩
  · rw [b5]; exact h
  · rw [b6]; exact and_un h
  · rw [b7]; exact or_and (and_un h)
theorem brk_and (k : Int) : brk 6 k false = brk 5 k true := by
  unfold brk fixK
  by_cases h10 : k = 10
  · subst h10; rfl
  by_cases h11 : k = 11
  · subst h11; rfl
  by_cases h7 : k = 7
  · subst h7; rfl
  by_cases h6 : k = 6
  · subst h6; rfl
  simp [h10, h11, h7, h6]
theorem brk_or (k : Int) : brk 7 k false = brk 6 k true := by
  unfold brk fixK
  by_cases h10 : k = 10
  · subst h10; rfl
  by_cases h11 : k = 11
  · subst h11; rfl
  by_cases h7 : k = 7
  · subst h7; rfl
  by_cases h6 : k = 6
  · subst h6; rfl
  simp [h10, h11, h7, h6]
theorem reads : ∀ t : Tr, t.ok = true → Reads t
  | .leaf k s p, h => by
    have hk := tr_kinds h
    simp only [Tr.ok, Bool.and_eq_true, decide_eq_true_eq] at h
    refine Reads.plain ?_ (un_leaf h.1 h.2)
    have h0 := h.1
    simp only [Tr.kind] at hk ⊢
    rcases hk with rfl | rfl | rfl | rfl | rfl | rfl | rfl | rfl | rfl | rfl | rfl <;> first | (exact absurd h0 (by decide)) | omega
  | .un k s p a, h => by
    have hk := tr_kinds h
    simp only [Tr.ok, Bool.and_eq_true, decide_eq_true_eq] at h
    have ra := reads a h.2
    simp only [Tr.kind] at hk
    have h0 := h.1.1
    have hn := h.1.2
    rcases hk with rfl | rfl | rfl | rfl | rfl | rfl | rfl | rfl | rfl | rfl | rfl
    case inl => exact absurd h0 (by decide)
    case inr.inl => exact absurd h0 (by decide)
    case inr.inr.inl => exact absurd h0 (by decide)
    case inr.inr.inr.inl => exact absurd h0 (by decide)
    case inr.inr.inr.inr.inr.inl => exact absurd h0 (by decide)
    case inr.inr.inr.inr.inr.inr.inl => exact absurd h0 (by decide)
    case inr.inr.inr.inr.inl =>
      refine Reads.plain (by simp [Tr.kind]) ?_
      exact un_not (of_decide_eq_true hn) ra.un
    case inr.inr.inr.inr.inr.inr.inr.inl =>
      refine Reads.plain (by simp [Tr.kind]) ?_
      exact un_modal (.inl ⟨rfl, rfl, rfl⟩) hn ra.un
    case inr.inr.inr.inr.inr.inr.inr.inr.inl =>
      refine Reads.plain (by simp [Tr.kind]) ?_
      exact un_modal (.inr ⟨rfl, rfl, rfl⟩) hn ra.un
    case inr.inr.inr.inr.inr.inr.inr.inr.inr.inl =>
      have full : RFull (.un 10 s p a) (tkT (.un 10 s p a)) := full_un (un_fix (.inl ⟨rfl, rfl⟩) ra.full)
      exact ⟨un_full full, and_un (un_full full), or_and (and_un (un_full full)), full⟩
    case inr.inr.inr.inr.inr.inr.inr.inr.inr.inr =>
      have full : RFull (.un 11 s p a) (tkT (.un 11 s p a)) := full_un (un_fix (.inr ⟨rfl, rfl⟩) ra.full)
      exact ⟨un_full full, and_un (un_full full), or_and (and_un (un_full full)), full⟩
  | .bin k s p a b, h => by
    simp only [Tr.ok, Bool.and_eq_true, decide_eq_true_eq] at h
    have ra := reads a h.1.2
    have rb := reads b h.2
    have hn := h.1.1.2
    have hk : k = 6 ∨ k = 7 := by
      have h0 := h.1.1.1
      unfold arF at h0
      split at h0
      · omega
      split at h0
      · omega
      split at h0
      · assumption
      · omega
    rcases hk with rfl | rfl
    · have an : RAnd (.bin 6 s p a b) (tkT (.bin 6 s p a b)) := and_bin (of_decide_eq_true hn) ra.and (by rw [brk_and]; exact rb.un)
      have full := full_or (or_and an)
      exact ⟨un_full full, an, or_and an, full⟩
    · have o : ROr (.bin 7 s p a b) (tkT (.bin 7 s p a b)) := or_bin (of_decide_eq_true hn) ra.or (by rw [brk_or]; exact rb.and)
      have full := full_or o
      exact ⟨un_full full, and_un (un_full full), o, full⟩
end Go.Ab.S6
namespace Go.Ab.S6
set_option linter.unusedVariables false
set_option linter.unusedSimpArgs false
variable {α : Type} {h : H}
theorem cat_run {a b : List UInt8} {K : List UInt8 → M α} (hl : a.length + b.length ≤ 4611686018427387904) : cat a b K h = K (a ++ b) h := by
  unfold cat
  rw [need_run (Nat.ble_eq_true_of_le hl)]
theorem spelt_len {lo hi : Int} {s : List UInt8} (h : speltF lo hi s = true) : s.length ≤ 8 := by
  cases s with
  | nil => exact Nat.zero_le _
  | cons c r =>
    simp only [speltF, Bool.and_eq_true, decide_eq_true_eq] at h
    have := h.1.1.1
    simp only [List.length_cons]; omega
theorem named_len {k : Int} {s : List UInt8} (h : namedF k s = true) : s.length ≤ 8 := by
  unfold namedF nameF varF at h
  split at h
  · rw [Bool.and_eq_true] at h; exact spelt_len h.1
  split at h
  · exact spelt_len h
  split at h
  · rw [Bool.or_eq_true] at h
    rcases h with h | h
    · rw [of_decide_eq_true h]; decide
    · rw [Bool.and_eq_true] at h; exact spelt_len h.1
  · rw [of_decide_eq_true h]; decide
theorem headP_len (k : Int) {s : List UInt8} (h : s.length ≤ 8) : (headP k s).length ≤ 13 := by
  unfold headP
  repeat' split
  all_goals (try simp only [List.length_append, List.length_cons, List.length_nil])
  all_goals omega
theorem paren_len (b : Bool) (w : List UInt8) : (paren b w).length ≤ w.length + 2 := by
  cases b <;> simp [paren]
theorem prT_len : ∀ t : Tr, t.ok = true → (prT t).length ≤ 20 * t.size
  | .leaf k s p, h => by
    simp only [Tr.ok, Bool.and_eq_true] at h
    have := headP_len k (named_len h.2)
    simp only [prT, Tr.size]; omega
  | .un k s p a, h => by
    simp only [Tr.ok, Bool.and_eq_true] at h
    have := headP_len k (named_len h.1.2)
    have := paren_len (brk k a.kind true) (prT a)
    have := prT_len a h.2
    simp only [prT, Tr.size, List.length_append]; omega
  | .bin k s p a b, h => by
    simp only [Tr.ok, Bool.and_eq_true] at h
    have := paren_len (brk k a.kind true) (prT a)
    have := paren_len (brk k b.kind false) (prT b)
    have := prT_len a h.1.2
    have := prT_len b h.2
    have : (if k = 7 then [32, 124, 32] else [32, 38, 32] : List UInt8).length = 3 := by split <;> rfl
    simp only [prT, Tr.size, List.length_append]; omega
theorem write_head (k : Nat) {b : Ad} {f : Sl} {l : List Nd} (r : NdR h f l) {i : Nat} {n : Nd} (hn : l[i]? = some n) (hs : n.name.length ≤ 8) (h6 : n.kind ≠ 6) (h7 : n.kind ≠ 7) (K : M α) :
    syntax_write.f (k + 1) b f (i : Int) K h = strings_Builder_WriteString.f k b (headP n.kind n.name) (fun _ _ => syntax_write.u2.f k (fun z0 z1 z2 z3 z4 z5 => syntax_operand.f k z0 z1 z2 z3 z4 z5) b f ⟨h.next, 0⟩ K) (h.push (ndC n)) := by
  rw [syntax_write.f, syntax_write.u3.f, syntax_write.u1.f, nd_rd r rfl hn, nd_copy]
  have hq : (h.push (ndC n)).get h.next = some (ndC n) := by rw [push_get, if_pos rfl]
  rw [own_kind hq]
  unfold headP
  by_cases h1 : n.kind = 1
  · rw [dT h1, cond_true, if_pos h1]
  rw [dF h1, cond_false, if_neg h1]
  by_cases h2 : n.kind = 2
  · rw [dT h2, cond_true, if_pos h2]
  rw [dF h2, cond_false, if_neg h2]
  by_cases h5 : n.kind = 5
  · rw [dT h5, cond_true, if_pos h5]
  rw [dF h5, cond_false, if_neg h5]
  by_cases h8 : n.kind = 8
  · rw [dT h8, cond_true, if_pos h8, own_name hq, cat_run (by simp; omega), cat_run (by simp; omega)]
  rw [dF h8, cond_false, if_neg h8]
  by_cases h9 : n.kind = 9
  · rw [dT h9, cond_true, if_pos h9, own_name hq, cat_run (by simp; omega), cat_run (by simp; omega)]
  rw [dF h9, cond_false, if_neg h9]
  by_cases h10 : n.kind = 10
  · rw [dT h10, cond_true, if_pos h10, own_name hq, cat_run (by simp; omega), cat_run (by simp; omega)]
  rw [dF h10, cond_false, if_neg h10]
  by_cases h11 : n.kind = 11
  · rw [dT h11, cond_true, if_pos h11, own_name hq, cat_run (by simp; omega), cat_run (by simp; omega)]
  rw [dF h11, cond_false, if_neg h11, dF h6, cond_false, dF h7, cond_false, own_name hq]
theorem write_two (k : Nat) {b : Ad} {f : Sl} {l : List Nd} (r : NdR h f l) {i : Nat} {n : Nd} (hn : l[i]? = some n) (hk : n.kind = 6 ∨ n.kind = 7) (K : M α) :
    syntax_write.f (k + 1) b f (i : Int) K h = syntax_operand.f k b f n.a n.kind true (ldI .i64 (((⟨h.next, 0⟩ : Ad).add 0).add 0) fun x => cond (decide (x = 7)) (
        strings_Builder_WriteString.f k b [32, 124, 32] fun _ _ => ldI .i64 (((⟨h.next, 0⟩ : Ad).add 2).add 0) fun x44 => ldI .i64 (((⟨h.next, 0⟩ : Ad).add 0).add 0) fun x45 => syntax_operand.f k b f x44 x45 false K)
        (strings_Builder_WriteString.f k b [32, 38, 32] fun _ _ => ldI .i64 (((⟨h.next, 0⟩ : Ad).add 2).add 0) fun x44 => ldI .i64 (((⟨h.next, 0⟩ : Ad).add 0).add 0) fun x45 => syntax_operand.f k b f x44 x45 false K)) (h.push (ndC n)) := by
  rw [syntax_write.f, syntax_write.u3.f, syntax_write.u1.f, nd_rd r rfl hn, nd_copy]
  have hq : (h.push (ndC n)).get h.next = some (ndC n) := by rw [push_get, if_pos rfl]
  rw [own_kind hq]
  have e1 : n.kind ≠ 1 ∧ n.kind ≠ 2 ∧ n.kind ≠ 5 ∧ n.kind ≠ 8 ∧ n.kind ≠ 9 ∧ n.kind ≠ 10 ∧ n.kind ≠ 11 := by omega
  obtain ⟨a1, a2, a5, a8, a9, a10, a11⟩ := e1
  rw [dF a1, cond_false, dF a2, cond_false, dF a5, cond_false, dF a8, cond_false, dF a9, cond_false, dF a10, cond_false, dF a11, cond_false]
  rcases hk with hk | hk
  · rw [dT hk, cond_true, cond_true, own_a hq, own_kind hq]
  · rw [dF (by omega : ¬ n.kind = 6), cond_false, dT hk, cond_true, own_a hq, own_kind hq]
def WrRun (f : Sl) (l : List Nd) (b : Ad) (h₀ : H) (t : Tr) : Prop :=
  ∀ (base k : Nat), (∀ i n, (t.flat base)[i]? = some n → l[base + i]? = some n) → 2 * t.size + 20 ≤ k → ∀ (h : H) (acc : List UInt8), Ext h₀ h → Bd h₀.next h b acc → acc.length + 20 * t.size ≤ 900000000 →
    ∃ h', (∀ (α : Type) (K : M α), syntax_write.f k b f ((base + t.size - 1 : Nat) : Int) K h = K h') ∧ Ext h₀ h' ∧ Bd h₀.next h' b (acc ++ prT t) ∧ Plain h h'
theorem Bd.ext {n0 : Nat} {h h' : H} {b : Ad} {l : List UInt8} (B : Bd n0 h b l) (x : Ext h h') : Bd n0 h' b l := by
  obtain ⟨p, s, hg, hp, hl⟩ := B.blk
  refine ⟨B.off, Nat.lt_of_lt_of_le B.lt x.1, B.new, p, s, by rw [x.2 _ B.lt]; exact hg, hp, hl.imp id ?_⟩
  rintro ⟨q1, q2, q3, a, q4, q5, q6, q7, q8, q9⟩
  exact ⟨q1, q2, q3, a, q4, q5, Nat.lt_of_lt_of_le q6 x.1, q7, q8, by rw [x.2 _ q6]; exact q9⟩
theorem ext_of {h₀ h1 h2 : H} (y : Ext h₀ h1) (hg : ∀ q, q < h₀.next → h2.get q = h1.get q) (hn : h1.next ≤ h2.next) : Ext h₀ h2 :=
  ⟨Nat.le_trans y.1 hn, fun q hq => by rw [hg q hq]; exact y.2 q hq⟩
end Go.Ab.S6
namespace Go.Ab.S6
set_option linter.unusedVariables false
set_option linter.unusedSimpArgs false
def EndW (r : List UInt8) : Prop := ∀ b s, r = b :: s → innerB b = false
theorem EndW.nil : EndW [] := fun b s h => by cases h
theorem EndW.cons {c : UInt8} {r : List UInt8} (h : innerB c = false) : EndW (c :: r) := fun b s e => by cases e; exact h
def Told (p w r : List UInt8) (l : List KTx) : Prop := ∃ ts, Sx p (w ++ r) ts (p ++ w) r ∧ KT ts = l ∧ words ts = ts
theorem Told.app {p w1 w2 r : List UInt8} {a b : List KTx} (h1 : Told p w1 (w2 ++ r) a) (h2 : Told (p ++ w1) w2 r b) : Told p (w1 ++ w2) r (a ++ b) := by
  obtain ⟨t1, s1, k1, e1⟩ := h1
  obtain ⟨t2, s2, k2, e2⟩ := h2
  refine ⟨t1 ++ t2, ?_, by unfold KT at *; rw [List.map_append, k1, k2], by rw [words_append, e1, e2]⟩
  have := s1.trans s2
  rw [List.append_assoc, ← List.append_assoc p]
  exact this
theorem Told.sign (p r : List UInt8) (c : UInt8) (hk : kindF c.toNat = 5) (h35 : (c.toNat : Int) ≠ 35) : Told p [c] r [sgK c] :=
  ⟨_, Sx.sign p c r (p.length : Nat) rfl hk h35, rfl, rfl⟩
theorem Told.space (p r : List UInt8) : Told p [32] r [] := ⟨_, Sx.space p r, rfl, rfl⟩
theorem spelt_cons {lo hi : Int} {s : List UInt8} (h : speltF lo hi s = true) : ∃ c w, s = c :: w ∧ w.length < 8 ∧ lo ≤ (c.toNat : Int) ∧ (c.toNat : Int) ≤ hi ∧ ∀ b ∈ w, innerB b = true := by
  cases s with
  | nil => cases h
  | cons c w =>
    simp only [speltF, Bool.and_eq_true, decide_eq_true_eq, List.all_cons] at h
    exact ⟨c, w, rfl, h.1.1.1, h.1.1.2, h.1.2, fun b hb => List.all_eq_true.1 h.2.2 b hb⟩
theorem Told.name (p r : List UInt8) {s : List UInt8} (hs : speltF 97 122 s = true) (hr : EndW r) : Told p s r [(2, s)] := by
  obtain ⟨c, w, rfl, h1, h2, h3, h4⟩ := spelt_cons hs
  have hk : kindF (c.toNat : Int) = 2 := by unfold kindF; rw [if_neg (by omega), if_pos ⟨h2, h3⟩]
  exact ⟨_, Sx.name p c w r (p.length : Nat) rfl hk (.inl rfl) h4 h1 hr, rfl, rfl⟩
theorem Told.var (p r : List UInt8) {s : List UInt8} (hs : varF s = true) (hr : EndW r) : Told p s r [(3, s)] := by
  obtain ⟨c, w, rfl, h1, h2, h3, h4⟩ := spelt_cons hs
  have hk : kindF (c.toNat : Int) = 3 := by unfold kindF; rw [if_neg (by omega), if_neg (by omega), if_pos ⟨h2, h3⟩]
  exact ⟨_, Sx.name p c w r (p.length : Nat) rfl hk (.inr rfl) h4 h1 hr, rfl, rfl⟩
theorem name_spelt {s : List UInt8} (h : nameF s = true) : speltF 97 122 s = true := by
  unfold nameF at h
  rw [Bool.and_eq_true] at h
  exact h.1
theorem Told.act (p r : List UInt8) {s : List UInt8} (hs : (decide (s = [45]) || nameF s) = true) (hr : EndW r) : Told p s r [actK s] := by
  unfold actK
  by_cases h : s = [45]
  · subst h
    exact Told.sign p r 45 (by decide) (by decide)
  · rw [if_neg h]
    rw [dF h, Bool.false_or] at hs
    exact Told.name p r (name_spelt hs) hr
theorem Told.head (p r : List UInt8) {k : Int} {s : List UInt8} (hk : 0 ≤ arF k ∧ arF k ≤ 1) (hn : namedF k s = true) (hr : arF k = 0 → EndW r) : Told p (headP k s) r (headK k s) := by
  have hks : k = 1 ∨ k = 2 ∨ k = 3 ∨ k = 4 ∨ k = 5 ∨ k = 8 ∨ k = 9 ∨ k = 10 ∨ k = 11 := by
    obtain ⟨h1, h2⟩ := hk
    unfold arF at h1 h2
    split at h1
    · omega
    split at h1
    · omega
    split at h1
    · rw [if_neg (by omega), if_neg (by omega), if_pos (by assumption)] at h2; omega
    · omega
  have fx : ∀ (w : List UInt8), speltF 97 122 w = true → varF s = true → Told p ((w ++ [32]) ++ s ++ [46, 32]) r [(2, w), (3, s), sgK 46] := by
    intro w hw hv
    have h1 := Told.name p ([32] ++ (s ++ ([46] ++ ([32] ++ r)))) hw (EndW.cons (by decide))
    have h2 := Told.space (p ++ w) (s ++ ([46] ++ ([32] ++ r)))
    have h3 := Told.var (p ++ w ++ [32]) ([46] ++ ([32] ++ r)) hv (EndW.cons (by decide))
    have h4 := Told.sign (p ++ w ++ [32] ++ s) ([32] ++ r) 46 (by decide) (by decide)
    have h5 := Told.space (p ++ w ++ [32] ++ s ++ [46]) r
    have a45 := Told.app h4 h5
    have e1 : ([46] ++ [32] : List UInt8) = [46, 32] := rfl
    have a3 := Told.app (w2 := [46] ++ [32]) (r := r) (by simpa using h3) a45
    have a2 := Told.app (w2 := s ++ ([46] ++ [32])) (r := r) (by simpa using h2) a3
    have a1 := Told.app (w2 := [32] ++ (s ++ ([46] ++ [32]))) (r := r) (by simpa using h1) a2
    have e : w ++ ([32] ++ (s ++ ([46] ++ [32]))) = (w ++ [32]) ++ s ++ [46, 32] := by simp
    rw [e] at a1
    exact a1
  have md : ∀ (c d : UInt8), kindF c.toNat = 5 → (c.toNat : Int) ≠ 35 → kindF d.toNat = 5 → (d.toNat : Int) ≠ 35 → innerB d = false → (decide (s = [45]) || nameF s) = true → Told p ([c] ++ s ++ [d]) r [sgK c, actK s, sgK d] := by
    intro c d c1 c2 d1 d2 d3 hs
    have h1 := Told.sign p (s ++ ([d] ++ r)) c c1 c2
    have h2 := Told.act (p ++ [c]) ([d] ++ r) hs (EndW.cons d3)
    have h3 := Told.sign (p ++ [c] ++ s) r d d1 d2
    have a2 := Told.app h2 h3
    have a1 := Told.app (w2 := s ++ [d]) (r := r) (by simpa using h1) a2
    rw [← List.append_assoc] at a1
    exact a1
  rcases hks with rfl | rfl | rfl | rfl | rfl | rfl | rfl | rfl | rfl
  · exact Told.name p r (s := [116, 116]) (by decide) (hr (by decide))
  · exact Told.name p r (s := [102, 102]) (by decide) (hr (by decide))
  · exact Told.name p r (name_spelt hn) (hr (by decide))
  · exact Told.var p r hn (hr (by decide))
  · exact Told.sign p r 126 (by decide) (by decide)
  · exact md 60 62 (by decide) (by decide) (by decide) (by decide) (by decide) hn
  · exact md 91 93 (by decide) (by decide) (by decide) (by decide) (by decide) hn
  · exact fx [109, 117] (by decide) hn
  · exact fx [110, 117] (by decide) hn
theorem Told.paren {b : Bool} {p w r : List UInt8} {l : List KTx} (h0 : b = false → Told p w r l) (h1 : ∀ p r, EndW r → Told p w r l) : Told p (paren b w) r (parK b l) := by
  cases b with
  | false => exact h0 rfl
  | true =>
    have a1 := Told.sign p (w ++ ([41] ++ r)) 40 (by decide) (by decide)
    have a2 := h1 (p ++ [40]) ([41] ++ r) (EndW.cons (by decide))
    have a3 := Told.sign (p ++ [40] ++ w) r 41 (by decide) (by decide)
    have a23 := Told.app a2 a3
    have a := Told.app (w2 := w ++ [41]) (r := r) (by simpa using a1) a23
    rw [← List.append_assoc] at a
    exact a
theorem told : ∀ (t : Tr) (p r : List UInt8), t.ok = true → EndW r → Told p (prT t) r (tkT t)
  | .leaf k s q, p, r, h, hr => by
    simp only [Tr.ok, Bool.and_eq_true, decide_eq_true_eq] at h
    exact Told.head p r (by omega) h.2 (fun _ => hr)
  | .un k s q a, p, r, h, hr => by
    simp only [Tr.ok, Bool.and_eq_true, decide_eq_true_eq] at h
    have h1 := Told.head p (paren (brk k a.kind true) (prT a) ++ r) (k := k) (by omega) h.1.2 (fun e => by omega)
    have h2 : Told (p ++ headP k s) (paren (brk k a.kind true) (prT a)) r (parK (brk k a.kind true) (tkT a)) := Told.paren (fun _ => told a _ r h.2 hr) (fun p r hr => told a p r h.2 hr)
    exact Told.app h1 h2
  | .bin k s q a b, p, r, h, hr => by
    simp only [Tr.ok, Bool.and_eq_true, decide_eq_true_eq] at h
    have sp : ∀ x : List UInt8, EndW ([32] ++ x) := fun x => EndW.cons (by decide)
    have key : ∀ (c : UInt8), kindF c.toNat = 5 → (c.toNat : Int) ≠ 35 → Told p (paren (brk k a.kind true) (prT a) ++ ([32, c, 32] ++ paren (brk k b.kind false) (prT b))) r (parK (brk k a.kind true) (tkT a) ++ (sgK c :: parK (brk k b.kind false) (tkT b))) := by
      intro c c1 c2
      have g1 : Told p (paren (brk k a.kind true) (prT a)) ([32] ++ ([c] ++ ([32] ++ (paren (brk k b.kind false) (prT b) ++ r)))) (parK (brk k a.kind true) (tkT a)) := Told.paren (fun _ => told a _ _ h.1.2 (sp _)) (fun p r hr => told a p r h.1.2 hr)
      have g2 := Told.space (p ++ paren (brk k a.kind true) (prT a)) ([c] ++ ([32] ++ (paren (brk k b.kind false) (prT b) ++ r)))
      have g3 := Told.sign (p ++ paren (brk k a.kind true) (prT a) ++ [32]) ([32] ++ (paren (brk k b.kind false) (prT b) ++ r)) c c1 c2
      have g4 := Told.space (p ++ paren (brk k a.kind true) (prT a) ++ [32] ++ [c]) (paren (brk k b.kind false) (prT b) ++ r)
      have g5 : Told (p ++ paren (brk k a.kind true) (prT a) ++ [32] ++ [c] ++ [32]) (paren (brk k b.kind false) (prT b)) r (parK (brk k b.kind false) (tkT b)) := Told.paren (fun _ => told b _ r h.2 hr) (fun p r hr => told b p r h.2 hr)
      have a4 := Told.app g4 g5
      have a3 := Told.app (w2 := [32] ++ paren (brk k b.kind false) (prT b)) (r := r) (by simpa using g3) a4
      have a2 := Told.app (w2 := [c] ++ ([32] ++ paren (brk k b.kind false) (prT b))) (r := r) (by simpa using g2) a3
      have a1 := Told.app (w2 := [32] ++ ([c] ++ ([32] ++ paren (brk k b.kind false) (prT b)))) (r := r) (by simpa using g1) a2
      simpa using a1
    show Told p (paren (brk k a.kind true) (prT a) ++ ((if k = 7 then [32, 124, 32] else [32, 38, 32]) ++ paren (brk k b.kind false) (prT b))) r (parK (brk k a.kind true) (tkT a) ++ (sgK (if k = 7 then 124 else 38) :: parK (brk k b.kind false) (tkT b)))
    by_cases h7 : k = 7
    · rw [if_pos h7, if_pos h7]; exact key 124 (by decide) (by decide)
    · rw [if_neg h7, if_neg h7]; exact key 38 (by decide) (by decide)
theorem print_parse {t : Tr} (ht : t.ok = true) (hs : t.size ≤ 60) : ∃ t' : Tr, t'.np = t.np ∧ parseF (prT t) = .ok (t'.flat 0) := by
  obtain ⟨ts, sx, hk, hw⟩ := told t [] [] ht EndW.nil
  rw [List.append_nil, List.nil_append] at sx
  have hl : (prT t).length ≤ 262144 := by have := prT_len t ht; omega
  obtain ⟨h1, he⟩ := parse_of (Sx.fin sx hl)
  rw [hw] at h1 he
  have hstop : Stops [endT (prT t)] := stops_kind (by show (0 : Int) ≠ 5; decide) []
  obtain ⟨t', g1, g2⟩ := (reads t ht).full ts [endT (prT t)] 0 [] hk hstop (by omega)
  refine ⟨t', g1, ?_⟩
  rw [h1, parse_ok he g2, if_pos (by rfl)]
  simp [Mk]
end Go.Ab.S6
namespace Go.Ab.S6
set_option linter.unusedVariables false
set_option linter.unusedSimpArgs false
theorem flat_bd {P : Int → Prop} : ∀ (t : Tr) (base : Nat), t.at P → ∀ n ∈ t.flat base, P n.pos ∧ 0 ≤ n.a ∧ n.a ≤ base + t.size ∧ 0 ≤ n.b ∧ n.b ≤ base + t.size
  | .leaf k s p, base, h, n, hn => by
    rw [List.mem_singleton.1 hn]
    refine ⟨h, Int.le_refl _, ?_, Int.le_refl _, ?_⟩ <;> simp only [Tr.node, Tr.size] <;> omega
  | .un k s p a, base, h, n, hn => by
    have ha := Tr.pos a
    rcases List.mem_append.1 hn with hn | hn
    · have := flat_bd a base h.2 n hn
      simp only [Tr.size]
      refine ⟨this.1, this.2.1, ?_, this.2.2.2.1, ?_⟩ <;> omega
    · rw [List.mem_singleton.1 hn]
      refine ⟨h.1, ?_, ?_, Int.le_refl _, ?_⟩ <;> simp only [Tr.node, Tr.size] <;> omega
  | .bin k s p a b, base, h, n, hn => by
    have ha := Tr.pos a
    have hb := Tr.pos b
    rcases List.mem_append.1 hn with hn | hn
    · have := flat_bd a base h.2.1 n hn
      simp only [Tr.size]
      refine ⟨this.1, this.2.1, ?_, this.2.2.2.1, ?_⟩ <;> omega
    rcases List.mem_append.1 hn with hn | hn
    · have := flat_bd b (base + a.size) h.2.2 n hn
      simp only [Tr.size]
      refine ⟨this.1, this.2.1, ?_, this.2.2.2.1, ?_⟩ <;> omega
    · rw [List.mem_singleton.1 hn]
      refine ⟨h.1, ?_, ?_, ?_, ?_⟩ <;> simp only [Tr.node, Tr.size] <;> omega
theorem Psd.nd {text : List UInt8} {F : List Nd} {ts : List Tok} {t : Tr} (p : Psd text F ts t) {i : Nat} {n : Nd} (hi : F[i]? = some n) : 0 ≤ n.pos ∧ n.pos ≤ 262144 ∧ 0 ≤ n.a ∧ n.a ≤ 60 ∧ 0 ≤ n.b ∧ n.b ≤ 60 := by
  have hm : n ∈ t.flat 0 := by rw [← p.flat]; exact List.mem_of_getElem? hi
  have := flat_bd t 0 p.pos n hm
  have := p.size
  have := p.len
  omega
theorem step_text {a : List UInt8} {F : List Nd} {ta : List Tok} {t : Tr} (pa : Psd a F ta t) {P : List UInt8} {toks : List Tok} (hsx : ∀ R, Sx [] (P ++ 40 :: R) toks P (40 :: R)) (hw : words toks = toks) (hP : P.length ≤ 20) (hl : a.length ≤ 262000) (k : Int) (w : List UInt8)
    (hread : ∀ (L : List Tok) (n : Int) (s' : St), Ok .un 0 ⟨sgT (P.length : Nat) 40 :: L, 1, []⟩ (n, s') → Stops s'.l → Ok .un 0 ⟨toks ++ sgT (P.length : Nat) 40 :: L, 0, []⟩ (layE ⟨k, n, 0, w, 0⟩ s')) :
    (F.length < 60 → parseF (P ++ 40 :: (a ++ 10 :: [41])) = .ok (F.map (Nd.mv 0 ((P.length : Int) + 1)) ++ [⟨k, (F.length : Int) - 1, 0, w, 0⟩])) := by
  intro hlt
  have sx := (((hsx (a ++ 10 :: [41])).trans (Sx.sign P 40 (a ++ 10 :: [41]) (P.length : Nat) rfl (by decide) (by decide))).trans (Sx.text _ pa.sc _ ((P.length : Int) + 1) (by simp))).trans (Sx.sign _ 41 _ ((P.length + 1 + (a.length + 1) : Nat) : Int) (by simp; omega) (by decide) (by decide))
  have hlT : (P ++ 40 :: (a ++ 10 :: [41])).length ≤ 262144 := by simp; omega
  have hs := Sx.fin sx hlT
  obtain ⟨h1, he⟩ := parse_of hs
  rw [h1]
  have ew : ∀ (p : Int) (x : UInt8), words [sgT p x] = [sgT p x] := fun p x => rfl
  have el : ∀ (p : Int), words [⟨1, p, [10], 0⟩] = [] := fun p => rfl
  simp only [words_append, words_shift, ew, el, hw] at he ⊢
  simp only [List.append_nil, List.nil_append, List.append_assoc, List.cons_append] at he ⊢
  have hF := pa.flen
  have ht := Tr.pos t
  have hsa := pa.size
  have hstop : Stops [endT (P ++ 40 :: (a ++ 10 :: [41]))] := stops_kind (by show (0 : Int) ≠ 5; decide) []
  rcases pa.par (P.length : Nat) ((P.length + 1 + (a.length + 1) : Nat) : Int) [endT (P ++ 40 :: (a ++ 10 :: [41]))] 1 0 ((P.length : Int) + 1) (f0 := []) rfl (by decide) with ⟨a1, a2⟩ | ⟨a1, q, a2⟩
  rotate_left
  · omega
  have := Ok.top (hread _ _ _ a2 hstop) hstop
  rw [parse_ok he this, if_pos (by rfl)]
  simp only [layE, List.nil_append]
  congr 4
  show ((t.size - 1 : Nat) : Int) + ((0 : Nat) : Int) = (F.length : Int) - 1
  omega
end Go.Ab.S6
