import Derived.Test.YtkfoohgkbafafaaS3tk
import Derived.Test.YtkfoohgkbafafaaS3a
import Derived.Test.YtkfoohgkbafafaaAb20
import Derived.Test.YtkfoohgkbafafaaS3s
namespace Go.Ab.S3
set_option linter.unusedVariables false
set_option linter.unusedSimpArgs false
def endT (text : List UInt8) : Tok := ⟨0, (text.length : Nat), [], 0⟩
def words (ts : List Tok) : List Tok := ts.filter fun t => !lineT t
theorem words_append (a b : List Tok) : words (a ++ b) = words a ++ words b := List.filter_append _ _
theorem words_shift (d : Int) : ∀ ts : List Tok, words (ts.map (Tok.shift d)) = (words ts).map (Tok.shift d)
  | [] => rfl
  | t :: ts => by
    unfold words
    rw [List.map_cons, List.filter_cons, List.filter_cons]
    have := words_shift d ts
    unfold words at this
    rw [this]
    have e : lineT (t.shift d) = lineT t := rfl
    rw [e]
    cases lineT t <;> rfl
structure Psd (text : List UInt8) (F : List Nd) (ts : List Tok) (t : Tr) : Prop where
  len : text.length ≤ 262144
  sc : Sc text 0 ts text.length
  ok : t.ok = true
  pos : t.at fun p => 0 ≤ p ∧ p ≤ text.length
  flat : F = t.flat 0
  size : t.size ≤ 60
  ends : Ends (words ts ++ [endT text])
  read : ∃ s', Ok (.row true) 0 ⟨words ts ++ [endT text], 0, []⟩ (((t.size - 1 : Nat) : Int), s') ∧ s'.hd.kind = 0 ∧ s'.f = F ∧ s'.made = F.length
theorem parsed {text : List UInt8} {F : List Nd} (h : parseF text = .ok F) : ∃ ts t, Psd text F ts t := by
  rcases scanF_cases text with ⟨_, hs⟩ | ⟨hl, ts, sc, hs⟩ | ⟨_, _, _, _, _, _, hs⟩
  · unfold parseF at h; rw [hs] at h; cases h
  · unfold parseF at h
    have hsok := hs
    rw [hs] at h
    have h : parseE (words (ts ++ [endT text])) = .ok F := h
    have he : Ends (words (ts ++ [endT text])) := ((scan_ends hsok).resolve_right id).1
    rw [words_append] at h he
    have e1 : words [endT text] = [endT text] := rfl
    rw [e1] at h he
    obtain ⟨n, s', h1, h2, h3⟩ := parse_inv h
    obtain ⟨j, hj⟩ := h1.one
    have hb := pz_bal _ _ _ _ _ _ hj
    have hT : ∀ t ∈ words ts ++ [endT text], TokOk (fun p => 0 ≤ p ∧ p ≤ text.length) t := by
      intro t ht
      rcases List.mem_append.1 ht with ht | ht
      · exact sc.toks t (List.mem_filter.1 ht).1
      · rw [List.mem_singleton.1 ht]
        exact ⟨⟨by show (0 : Int) ≤ (text.length : Nat); omega, by show ((text.length : Nat) : Int) ≤ _; omega⟩, fun hk => absurd hk (by show ¬ (0 : Int) = 2; decide), fun hk => absurd hk (by show ¬ (0 : Int) = 3; decide)⟩
    obtain ⟨_, t, t1, t2, t3, t4⟩ := pz_tree _ _ _ _ _ _ hj he hT
    have t3 : s'.f = t.flat 0 := by rw [t3]; rfl
    have hm : s'.made = s'.f.length := by
      have := hb.1
      simp only [List.length_nil] at this
      omega
    have h60 : s'.made ≤ 60 := hb.2.2.1 (Nat.zero_le _)
    have t4 : n = ((t.size - 1 : Nat) : Int) := by rw [t4]; simp
    rw [t4] at h1
    refine ⟨ts, t, hl, sc, t1, t2, by rw [← h3, t3], ?_, he, s', h1, h2, h3, by rw [hm, h3]⟩
    rw [t3, flat_length] at hm
    omega
  · unfold parseF at h; rw [hs] at h; cases h
theorem Psd.flen {text : List UInt8} {F : List Nd} {ts : List Tok} {t : Tr} (p : Psd text F ts t) : F.length = t.size := by rw [p.flat, flat_length]
theorem mvl_snoc (d : Int) (tail : List Tok) (e : Tok) : ∀ us : List Tok, mvl d tail (us ++ [e]) = us.map (Tok.shift d) ++ tail
  | [] => rfl
  | [t] => rfl
  | t :: u :: r => by
    have := mvl_snoc d tail e (u :: r)
    show t.shift d :: mvl d tail (u :: r ++ [e]) = _
    rw [this]
    rfl
theorem Psd.moved {text : List UInt8} {F : List Nd} {ts : List Tok} {t : Tr} (p : Psd text F ts t) {tail : List Tok} (hst : Stops tail) (m0 n0 : Nat) (d : Int) {f0 : List Nd} (hf0 : f0.length = n0) (h60 : m0 ≤ 60) :
    (m0 + F.length ≤ 60 ∧ Ok (.row true) 0 ⟨(words ts).map (Tok.shift d) ++ tail, m0, f0⟩ (((t.size - 1 : Nat) : Int) + n0, ⟨tail, F.length + m0, f0 ++ F.map (Nd.mv n0 d)⟩)) ∨
    (60 < m0 + F.length ∧ ∃ q, Fl (.row true) 0 ⟨(words ts).map (Tok.shift d) ++ tail, m0, f0⟩ (q, 10)) := by
  obtain ⟨s', h1, h2, h3, h4⟩ := p.read
  obtain ⟨j, hj⟩ := h1.one
  have hb := pz_bal _ _ _ _ _ _ hj
  have := pz_mv (n0 := n0) (m0 := m0) (d := d) (f0 := f0) (tail := tail) hst hf0 _ _ _ 0 _ _ _ hj p.ends (by show m0 + 0 ≤ 60; omega) (fun o e => by cases e)
  have e1 : mvS n0 m0 d f0 tail ⟨words ts ++ [endT text], 0, []⟩ = ⟨(words ts).map (Tok.shift d) ++ tail, m0, f0⟩ := by
    unfold mvS
    simp only [mvl_snoc, List.map_nil, List.append_nil, Nat.zero_add]
  have e2 : mvS n0 m0 d f0 tail s' = ⟨tail, F.length + m0, f0 ++ F.map (Nd.mv n0 d)⟩ := by
    have := mvS_end (n0 := n0) (m0 := m0) (d := d) (f0 := f0) (tail := tail) (hb.2.2.2.1 p.ends) h2
    unfold mvS at this ⊢
    simp only at this
    rw [this, h3, h4]
  rw [e1] at this
  rcases this with ⟨a1, a2⟩ | ⟨a1, q, a2⟩
  · left
    rw [h4] at a1
    rw [e2] at a2
    exact ⟨a1, .of a2⟩
  · right
    rw [h4] at a1
    exact ⟨a1, q, .of a2 (by show (10 : Int) ≠ 0; decide)⟩
def sgT (p : Int) (c : UInt8) : Tok := ⟨5, p, [c], 0⟩
theorem stops_sg (p : Int) {c : UInt8} (h1 : c ≠ 124) (h2 : c ≠ 38) (r : List Tok) : Stops (sgT p c :: r) := by
  intro o m f
  unfold isS St.hd
  cases o
  · simp [signO, sgT, h2]
  · simp [signO, sgT, h1]
theorem stops_kind {t : Tok} (h : t.kind ≠ 5) (r : List Tok) : Stops (t :: r) := by
  intro o m f
  exact isS_kind_ne (s := ⟨t :: r, m, f⟩) h _
theorem isS_sg (p : Int) (c : UInt8) (r : List Tok) (m : Nat) (f : List Nd) : isS [c] ⟨sgT p c :: r, m, f⟩ = true := by
  simp [isS, St.hd, sgT]
theorem Psd.par {text : List UInt8} {F : List Nd} {ts : List Tok} {t : Tr} (p : Psd text F ts t) (x y : Int) (rest : List Tok) (m0 n0 : Nat) (d : Int) {f0 : List Nd} (hf0 : f0.length = n0) (h60 : m0 ≤ 60) :
    (m0 + F.length ≤ 60 ∧ Ok .un 0 ⟨sgT x 40 :: ((words ts).map (Tok.shift d) ++ sgT y 41 :: rest), m0, f0⟩ (((t.size - 1 : Nat) : Int) + n0, ⟨rest, F.length + m0, f0 ++ F.map (Nd.mv n0 d)⟩)) ∨
    (60 < m0 + F.length ∧ ∃ q, Fl .un 0 ⟨sgT x 40 :: ((words ts).map (Tok.shift d) ++ sgT y 41 :: rest), m0, f0⟩ (q, 10)) := by
  rcases p.moved (stops_sg y (c := 41) (by decide) (by decide) rest) m0 n0 d hf0 h60 with ⟨h1, h2⟩ | ⟨h1, q, h2⟩
  · exact .inl ⟨h1, Ok.par (isS_sg _ _ _ _ _) h2 (isS_sg _ _ _ _ _)⟩
  · exact .inr ⟨h1, q, Fl.par (isS_sg _ _ _ _ _) h2⟩
def Sx (p r : List UInt8) (ts : List Tok) (q r' : List UInt8) : Prop := p ++ r = q ++ r' ∧ Sc (p ++ r) p.length ts q.length
theorem Sx.trans {p r q r' v r'' : List UInt8} {ts us : List Tok} (a : Sx p r ts q r') (b : Sx q r' us v r'') : Sx p r (ts ++ us) v r'' := by
  refine ⟨a.1.trans b.1, a.2.trans ?_⟩
  rw [a.1]
  exact b.2
theorem Sx.sign (p : List UInt8) (c : UInt8) (r : List UInt8) (x : Int) (hx : x = (p.length : Nat)) (hk : kindF c.toNat = 5) (h35 : (c.toNat : Int) ≠ 35) : Sx p (c :: r) [sgT x c] (p ++ [c]) r := by
  subst hx
  refine ⟨by simp, ?_⟩
  have := Sc.sign p c r hk h35
  rw [show (p ++ [c]).length = p.length + 1 by simp]
  exact this
theorem Sx.space (p r : List UInt8) : Sx p (32 :: r) [] (p ++ [32]) r := ⟨by simp, by have := Sc.space p r; simpa using this⟩
theorem Sx.name (p : List UInt8) (c : UInt8) (w r : List UInt8) (x : Int) (hx : x = (p.length : Nat)) {kd : Int} (hk : kindF c.toNat = kd) (hkd : kd = 2 ∨ kd = 3) (hw : ∀ b ∈ w, innerB b = true) (hl : w.length < 8) (hr : ∀ b s, r = b :: s → innerB b = false) :
    Sx p ((c :: w) ++ r) [⟨kd, x, c :: w, 0⟩] (p ++ (c :: w)) r := by
  subst hx
  refine ⟨by simp, ?_⟩
  have := Sc.name p c w r hk hkd hw hl hr
  rw [show (p ++ (c :: w)).length = p.length + (c :: w).length by simp]
  exact this
theorem Sx.text (p : List UInt8) {a : List UInt8} {ts : List Tok} (s : Sc a 0 ts a.length) (r : List UInt8) (x : Int) (hx : x = (p.length : Nat)) : Sx p (a ++ 10 :: r) (ts.map (Tok.shift x) ++ [⟨1, x + a.length, [10], 0⟩]) (p ++ (a ++ [10])) r := by
  subst hx
  have h1 := ((s.join r).trans (Sc.line a r)).behind p
  refine ⟨by simp, ?_⟩
  simp only [Nat.add_zero, List.map_append, List.map_cons, List.map_nil] at h1
  have e0 : (p ++ (a ++ [10])).length = p.length + (a.length + 1) := by simp
  rw [e0]
  have e : Tok.shift p.length ⟨1, a.length, [10], 0⟩ = ⟨1, p.length + a.length, [10], 0⟩ := by
    unfold Tok.shift
    simp only [Tok.mk.injEq, true_and, and_true]
    omega
  rw [e] at h1
  exact h1
theorem Sx.fin {T q : List UInt8} {ts : List Tok} (s : Sx [] T ts q []) (hl : T.length ≤ 262144) : scanF T = .ok (ts ++ [endT T]) := by
  have e : q = T := by have := s.1; simpa using this.symm
  have h := s.2
  rw [e] at h
  exact Sc.okF (by simpa using h) hl
theorem parse_of {T : List UInt8} {ts : List Tok} (h : scanF T = .ok (ts ++ [endT T])) : parseF T = parseE (words ts ++ [endT T]) ∧ Ends (words ts ++ [endT T]) := by
  have he := ((scan_ends h).resolve_right id).1
  have e : (ts ++ [endT T]).filter (fun t => !lineT t) = words ts ++ [endT T] := by
    rw [← show words (ts ++ [endT T]) = (ts ++ [endT T]).filter (fun t => !lineT t) from rfl, words_append]
    rfl
  rw [e] at he
  refine ⟨?_, he⟩
  unfold parseF
  rw [h]
  show parseE ((ts ++ [endT T]).filter _) = _
  rw [e]
theorem Ok.top {s s' : St} {n : Int} (h : Ok .un 0 s (n, s')) (hs : Stops s'.l) : Ok (.row true) 0 s (n, s') := by
  have e : ∀ o, isS (signO o) s' = false := fun o => hs o s'.made s'.f
  have h1 : Ok (.row false) 0 s (n, s') := Ok.row (o := false) (y := (n, s')) h (.stop (e false))
  exact Ok.row (o := true) (y := (n, s')) h1 (.stop (e true))
theorem Fl.top {s : St} {e : Er} (h : Fl .un 0 s e) : Fl (.row true) 0 s e := Fl.row1 (o := true) (Fl.row1 (o := false) h)
end Go.Ab.S3
namespace Go.Ab.S3
set_option linter.unusedVariables false
set_option linter.unusedSimpArgs false
theorem flat_bd {P : Int → Prop} : ∀ (t : Tr) (base : Nat), t.at P → ∀ n ∈ t.flat base, P n.pos ∧ 0 ≤ n.a ∧ n.a ≤ base + t.size ∧ 0 ≤ n.b ∧ n.b ≤ base + t.size
  | .leaf k s p, base, h, n, hn => by
    rw [List.mem_singleton.1 hn]
    refine ⟨h, Int.le_refl _, ?_, Int.le_refl _, ?_⟩ <;> simp only [Tr.node, Tr.size] <;> omega
  | .un k s p a, base, h, n, hn => by
    have ha := Tr.pos a
    rcases List.mem_append.1 hn with hn | hn
    · have := flat_bd a base h.2 n hn
      simp only [Tr.size]
      refine ⟨this.1, this.2.1, ?_, this.2.2.2.1, ?_⟩ <;> omega
    · rw [List.mem_singleton.1 hn]
      refine ⟨h.1, ?_, ?_, Int.le_refl _, ?_⟩ <;> simp only [Tr.node, Tr.size] <;> omega
  | .bin k s p a b, base, h, n, hn => by
    have ha := Tr.pos a
    have hb := Tr.pos b
    rcases List.mem_append.1 hn with hn | hn
    · have := flat_bd a base h.2.1 n hn
      simp only [Tr.size]
      refine ⟨this.1, this.2.1, ?_, this.2.2.2.1, ?_⟩ <;> omega
    rcases List.mem_append.1 hn with hn | hn
    · have := flat_bd b (base + a.size) h.2.2 n hn
      simp only [Tr.size]
      refine ⟨this.1, this.2.1, ?_, this.2.2.2.1, ?_⟩ <;> omega
    · rw [List.mem_singleton.1 hn]
      refine ⟨h.1, ?_, ?_, ?_, ?_⟩ <;> simp only [Tr.node, Tr.size] <;> omega
theorem Psd.nd {text : List UInt8} {F : List Nd} {ts : List Tok} {t : Tr} (p : Psd text F ts t) {i : Nat} {n : Nd} (hi : F[i]? = some n) : 0 ≤ n.pos ∧ n.pos ≤ 262144 ∧ 0 ≤ n.a ∧ n.a ≤ 60 ∧ 0 ≤ n.b ∧ n.b ≤ 60 := by
  have hm : n ∈ t.flat 0 := by rw [← p.flat]; exact List.mem_of_getElem? hi
  have := flat_bd t 0 p.pos n hm
  have := p.size
  have := p.len
  omega
theorem step_text {a : List UInt8} {F : List Nd} {ta : List Tok} {t : Tr} (pa : Psd a F ta t) {P : List UInt8} {toks : List Tok} (hsx : ∀ R, Sx [] (P ++ 40 :: R) toks P (40 :: R)) (hw : words toks = toks) (hP : P.length ≤ 20) (hl : a.length ≤ 262000) (k : Int) (w : List UInt8)
    (hread : ∀ (L : List Tok) (n : Int) (s' : St), Ok .un 0 ⟨sgT (P.length : Nat) 40 :: L, 1, []⟩ (n, s') → Stops s'.l → Ok .un 0 ⟨toks ++ sgT (P.length : Nat) 40 :: L, 0, []⟩ (layE ⟨k, n, 0, w, 0⟩ s')) :
    (F.length < 60 → parseF (P ++ 40 :: (a ++ 10 :: [41])) = .ok (F.map (Nd.mv 0 ((P.length : Int) + 1)) ++ [⟨k, (F.length : Int) - 1, 0, w, 0⟩])) := by
  intro hlt
  have sx := (((hsx (a ++ 10 :: [41])).trans (Sx.sign P 40 (a ++ 10 :: [41]) (P.length : Nat) rfl (by decide) (by decide))).trans (Sx.text _ pa.sc _ ((P.length : Int) + 1) (by simp))).trans (Sx.sign _ 41 _ ((P.length + 1 + (a.length + 1) : Nat) : Int) (by simp; omega) (by decide) (by decide))
  have hlT : (P ++ 40 :: (a ++ 10 :: [41])).length ≤ 262144 := by simp; omega
  have hs := Sx.fin sx hlT
  obtain ⟨h1, he⟩ := parse_of hs
  rw [h1]
  have ew : ∀ (p : Int) (x : UInt8), words [sgT p x] = [sgT p x] := fun p x => rfl
  have el : ∀ (p : Int), words [⟨1, p, [10], 0⟩] = [] := fun p => rfl
  simp only [words_append, words_shift, ew, el, hw] at he ⊢
  simp only [List.append_nil, List.nil_append, List.append_assoc, List.cons_append] at he ⊢
  have hF := pa.flen
  have ht := Tr.pos t
  have hsa := pa.size
  have hstop : Stops [endT (P ++ 40 :: (a ++ 10 :: [41]))] := stops_kind (by show (0 : Int) ≠ 5; decide) []
  rcases pa.par (P.length : Nat) ((P.length + 1 + (a.length + 1) : Nat) : Int) [endT (P ++ 40 :: (a ++ 10 :: [41]))] 1 0 ((P.length : Int) + 1) (f0 := []) rfl (by decide) with ⟨a1, a2⟩ | ⟨a1, q, a2⟩
  rotate_left
  · omega
  have := Ok.top (hread _ _ _ a2 hstop) hstop
  rw [parse_ok he this, if_pos (by rfl)]
  simp only [layE, List.nil_append]
  congr 4
  show ((t.size - 1 : Nat) : Int) + ((0 : Nat) : Int) = (F.length : Int) - 1
  omega
def aheadL : List (List UInt8 × Int × List UInt8) := [([60, 97, 62], 8, [97]), ([91, 103, 111, 93], 9, [103, 111]), ([60, 45, 62], 8, [45]), ([109, 117, 32, 88, 49, 46], 10, [88, 49]), ([110, 117, 32, 65, 98, 99, 95, 57, 120, 121, 90, 32, 46, 32], 11, [65, 98, 99, 95, 57, 120, 121, 90])]
theorem nin {R : List UInt8} {c : UInt8} (hc : innerB c = false) : ∀ b s, c :: R = b :: s → innerB b = false := by
  intro b s h
  cases h
  exact hc
theorem step_all {a : List UInt8} {F : List Nd} {ta : List Tok} {t : Tr} (pa : Psd a F ta t) (hl : a.length ≤ 262000) (hlt : F.length < 60) : ∀ x ∈ aheadL, parseF (x.1 ++ 40 :: (a ++ 10 :: [41])) = .ok (F.map (Nd.mv 0 ((x.1.length : Int) + 1)) ++ [⟨x.2.1, (F.length : Int) - 1, 0, x.2.2, 0⟩]) := by
  intro x hx
  simp only [aheadL, List.mem_cons, List.not_mem_nil, or_false] at hx
  rcases hx with rfl | rfl | rfl | rfl | rfl
  · refine step_text pa (P := [60, 97, 62]) (toks := [sgT 0 60, ⟨2, 1, [97], 0⟩, sgT 2 62]) (fun R => ?_) rfl (by decide) hl 8 [97] (fun L n s' h hs => ?_) hlt
    · exact ((Sx.sign [] 60 (97 :: 62 :: 40 :: R) 0 rfl (by decide) (by decide)).trans (Sx.name [60] 97 [] (62 :: 40 :: R) 1 rfl (kd := 2) (by decide) (.inl rfl) (by decide) (by decide) (nin (by decide)))).trans (Sx.sign [60, 97] 62 (40 :: R) 2 rfl (by decide) (by decide))
    · exact Ok.modal (g := [60]) (g' := [62]) (k := 8) (.inl ⟨rfl, rfl, rfl⟩) rfl (by show (0 : Nat) ≠ 60; decide) (x := [97]) (by rfl) h
  · refine step_text pa (P := [91, 103, 111, 93]) (toks := [sgT 0 91, ⟨2, 1, [103, 111], 0⟩, sgT 3 93]) (fun R => ?_) rfl (by decide) hl 9 [103, 111] (fun L n s' h hs => ?_) hlt
    · exact ((Sx.sign [] 91 (103 :: 111 :: 93 :: 40 :: R) 0 rfl (by decide) (by decide)).trans (Sx.name [91] 103 [111] (93 :: 40 :: R) 1 rfl (kd := 2) (by decide) (.inl rfl) (by decide) (by decide) (nin (by decide)))).trans (Sx.sign [91, 103, 111] 93 (40 :: R) 3 rfl (by decide) (by decide))
    · exact Ok.modal (g := [91]) (g' := [93]) (k := 9) (.inr ⟨rfl, rfl, rfl⟩) rfl (by show (0 : Nat) ≠ 60; decide) (x := [103, 111]) (by rfl) h
  · refine step_text pa (P := [60, 45, 62]) (toks := [sgT 0 60, sgT 1 45, sgT 2 62]) (fun R => ?_) rfl (by decide) hl 8 [45] (fun L n s' h hs => ?_) hlt
    · exact ((Sx.sign [] 60 (45 :: 62 :: 40 :: R) 0 rfl (by decide) (by decide)).trans (Sx.sign [60] 45 (62 :: 40 :: R) 1 rfl (by decide) (by decide))).trans (Sx.sign [60, 45] 62 (40 :: R) 2 rfl (by decide) (by decide))
    · exact Ok.modal (g := [60]) (g' := [62]) (k := 8) (.inl ⟨rfl, rfl, rfl⟩) rfl (by show (0 : Nat) ≠ 60; decide) (x := [45]) (by rfl) h
  · refine step_text pa (P := [109, 117, 32, 88, 49, 46]) (toks := [⟨2, 0, [109, 117], 0⟩, ⟨3, 3, [88, 49], 0⟩, sgT 5 46]) (fun R => ?_) rfl (by decide) hl 10 [88, 49] (fun L n s' h hs => ?_) hlt
    · exact (((Sx.name [] 109 [117] (32 :: 88 :: 49 :: 46 :: 40 :: R) 0 rfl (kd := 2) (by decide) (.inl rfl) (by decide) (by decide) (nin (by decide))).trans (Sx.space [109, 117] (88 :: 49 :: 46 :: 40 :: R))).trans (Sx.name [109, 117, 32] 88 [49] (46 :: 40 :: R) 3 rfl (kd := 3) (by decide) (.inr rfl) (by decide) (by decide) (nin (by decide)))).trans (Sx.sign [109, 117, 32, 88, 49] 46 (40 :: R) 5 rfl (by decide) (by decide))
    · exact Ok.fix (s := ⟨[⟨2, 0, [109, 117], 0⟩, ⟨3, 3, [88, 49], 0⟩, sgT 5 46] ++ sgT (([109, 117, 32, 88, 49, 46] : List UInt8).length : Nat) 40 :: L, 0, []⟩) rfl (by show (0 : Nat) ≠ 60; decide) (.inl rfl) rfl rfl (Ok.top h hs)
  · refine step_text pa (P := [110, 117, 32, 65, 98, 99, 95, 57, 120, 121, 90, 32, 46, 32]) (toks := [⟨2, 0, [110, 117], 0⟩, ⟨3, 3, [65, 98, 99, 95, 57, 120, 121, 90], 0⟩, sgT 12 46]) (fun R => ?_) rfl (by decide) hl 11 [65, 98, 99, 95, 57, 120, 121, 90] (fun L n s' h hs => ?_) hlt
    · exact (((((Sx.name [] 110 [117] (32 :: 65 :: 98 :: 99 :: 95 :: 57 :: 120 :: 121 :: 90 :: 32 :: 46 :: 32 :: 40 :: R) 0 rfl (kd := 2) (by decide) (.inl rfl) (by decide) (by decide) (nin (by decide))).trans (Sx.space [110, 117] (65 :: 98 :: 99 :: 95 :: 57 :: 120 :: 121 :: 90 :: 32 :: 46 :: 32 :: 40 :: R))).trans (Sx.name [110, 117, 32] 65 [98, 99, 95, 57, 120, 121, 90] (32 :: 46 :: 32 :: 40 :: R) 3 rfl (kd := 3) (by decide) (.inr rfl) (by decide) (by decide) (nin (by decide)))).trans (Sx.space [110, 117, 32, 65, 98, 99, 95, 57, 120, 121, 90] (46 :: 32 :: 40 :: R))).trans (Sx.sign [110, 117, 32, 65, 98, 99, 95, 57, 120, 121, 90, 32] 46 (32 :: 40 :: R) 12 rfl (by decide) (by decide))).trans (Sx.space [110, 117, 32, 65, 98, 99, 95, 57, 120, 121, 90, 32, 46] (40 :: R))
    · exact Ok.fix (s := ⟨[⟨2, 0, [110, 117], 0⟩, ⟨3, 3, [65, 98, 99, 95, 57, 120, 121, 90], 0⟩, sgT 12 46] ++ sgT (([110, 117, 32, 65, 98, 99, 95, 57, 120, 121, 90, 32, 46, 32] : List UInt8).length : Nat) 40 :: L, 0, []⟩) rfl (by show (0 : Nat) ≠ 60; decide) (.inr rfl) rfl rfl (Ok.top h hs)
end Go.Ab.S3
namespace Go.Ab.S3
set_option linter.unusedVariables false
set_option linter.unusedSimpArgs false
variable {α : Type} {h : H}
structure Bd (n0 : Nat) (h : H) (b : Ad) (l : List UInt8) : Prop where
  off : b.off = 0
  lt : b.id < h.next
  new : n0 ≤ b.id
  blk : ∃ p s, h.get b.id = some (.cellsT 64 true [p, .slice s]) ∧ (p = .ptr none ∨ p = .ptr (some b)) ∧
    ((l = [] ∧ s = Sl.nil) ∨ (l ≠ [] ∧ s.len = l.length ∧ s.loose = some 1 ∧ ∃ a, s.ad = some a ∧ a.off = 0 ∧ a.id < h.next ∧ n0 ≤ a.id ∧ a.id ≠ b.id ∧ h.get a.id = some (.cellsT 5 false (toBytes l))))
theorem copyCheck_run {b : Ad} {p v : V} (hg : h.get b.id = some (.cellsT 64 true [p, v])) (ho : b.off = 0) (hp : p = .ptr none ∨ p = .ptr (some b)) :
    ∃ h', (∀ (α : Type) (K : M α), copyCheckF 64 b K h = K h') ∧ h'.get b.id = some (.cellsT 64 true [.ptr (some b), v]) ∧ (∀ i, i ≠ b.id → h'.get i = h.get i) ∧ h'.next = h.next := by
  rcases hp with rfl | rfl
  · refine ⟨h.put b.id (some (.cellsT 64 true [.ptr (some b), v])), fun α K => ?_, put_get h _ _, fun i hi => put_ne h _ hi, rfl⟩
    unfold copyCheckF
    rw [hg]
    simp [ho]
  · refine ⟨h, fun α K => ?_, hg, fun _ _ => rfl, rfl⟩
    unfold copyCheckF
    rw [hg]
    simp [ho]
theorem ldS_typed {b : Ad} {p : V} {s : Sl} (hg : h.get b.id = some (.cellsT 64 true [p, .slice s])) (ho : b.off = 0) (K : Sl → M α) : ldS ((b.add 1).add 0) K h = K s h := by
  unfold ldS ld
  have : h.cell ((b.add 1).add 0) = some (.slice s) := by
    unfold H.cell
    simp [Ad.add, hg, ho]
  rw [this]
  rfl
theorem st_typed {b : Ad} {p v : V} {s : Sl} (hg : h.get b.id = some (.cellsT 64 true [p, v])) (ho : b.off = 0) (K : M α) : st1 ((b.add 1).add 0) (.slice s) K h = K (h.put b.id (some (.cellsT 64 true [p, .slice s]))) := by
  unfold st1
  have : h.setCell ((b.add 1).add 0) (.slice s) = some (h.put b.id (some (.cellsT 64 true [p, .slice s]))) := by
    unfold H.setCell
    simp [Ad.add, hg, ho, oneV]
    rfl
  rw [this]
def Plain (h h' : H) : Prop := h.next ≤ h'.next ∧ ∀ i cs o, i < h.next → h.get i = some (.cells cs o) → h'.get i = some (.cells cs o)
theorem Plain.refl (h : H) : Plain h h := ⟨Nat.le_refl _, fun _ _ _ _ g => g⟩
theorem Plain.trans {a b c : H} (x : Plain a b) (y : Plain b c) : Plain a c := ⟨Nat.le_trans x.1 y.1, fun i cs o hi g => y.2 i cs o (Nat.lt_of_lt_of_le hi x.1) (x.2 i cs o hi g)⟩
theorem Ext.plain {a b : H} (x : Ext a b) : Plain a b := ⟨x.1, fun i cs o hi g => by rw [x.2 i hi]; exact g⟩
theorem ws_run (k : Nat) {n0 : Nat} {b : Ad} {l : List UInt8} (B : Bd n0 h b l) (x : List UInt8) (hx : l.length + x.length ≤ 1000000000) :
    ∃ h', (∀ (α : Type) (ret : Int → V → M α), strings_Builder_WriteString.f (k + 2) b x ret h = ret (x.length : Int) .nilIface h') ∧ Bd n0 h' b (l ++ x) ∧ (∀ i, i < n0 → h'.get i = h.get i) ∧ Plain h h' := by
  obtain ⟨p, s, hg, hp, hl⟩ := B.blk
  obtain ⟨h1, e1, g1, o1, n1⟩ := copyCheck_run hg B.off hp
  have start : ∀ (α : Type) (ret : Int → V → M α), strings_Builder_WriteString.f (k + 2) b x ret h = appStrT 5 s x (fun x5 => st1 ((b.add 1).add 0) (.slice x5) <| ret (x.length : Int) .nilIface) h1 := by
    intro α ret
    rewrite [strings_Builder_WriteString.f, strings_Builder_WriteString.u1.f, builder_copyCheck.f, e1]
    exact ldS_typed g1 B.off _
  by_cases h0 : x = []
  · subst h0
    refine ⟨h1.put b.id (some (.cellsT 64 true [.ptr (some b), .slice s])), fun α ret => (start α ret).trans ?_, ⟨B.off, by show b.id < h1.next; rw [n1]; exact B.lt, B.new, .ptr (some b), s, put_get _ _ _, .inr rfl, ?_⟩, fun i hi => ?_, by show h.next ≤ h1.next; rw [n1]; exact Nat.le_refl _, fun i cs o hi g => ?_⟩
    · unfold appStrT
      exact st_typed g1 B.off _
    · rw [List.append_nil]
      refine hl.imp id fun ⟨q1, q2, q3, a, q4, q5, q6, q7, q8, q9⟩ => ⟨q1, q2, q3, a, q4, q5, by show a.id < h1.next; rw [n1]; exact q6, q7, q8, by rw [put_ne _ _ q8, o1 _ q8]; exact q9⟩
    · have : i ≠ b.id := by have := B.new; omega
      rw [put_ne _ _ this, o1 _ this]
    · have : i ≠ b.id := by rintro rfl; rw [hg] at g; cases g
      rw [put_ne _ _ this, o1 _ this]; exact g
  · have hxl : Nat.beq x.length 0 = false := beq_ne (by cases x <;> simp_all)
    have hb : Nat.ble (s.len + x.length + (s.len + x.length) / 4 + 512) 281474976710656 = true := by
      apply Nat.ble_eq_true_of_le
      rcases hl with ⟨_, rfl⟩ | ⟨_, q2, _⟩
      · show 0 + x.length + (0 + x.length) / 4 + 512 ≤ _; omega
      · omega
    -- the bytes' new block
    have fin : ∀ (h2 : H) (s' : Sl), (∀ (α : Type) (K : Sl → M α), appStrT 5 s x K h1 = K s' h2) → h2.next = h1.next + 1 → h2.get b.id = h1.get b.id → (∀ i, i < n0 → h2.get i = h1.get i) → s' = ⟨some ⟨h1.next, 0⟩, (l ++ x).length, (l ++ x).length, some 1⟩ → h2.get h1.next = some (.cellsT 5 false (toBytes (l ++ x))) → (∀ i cs o, i < h1.next → h1.get i = some (.cells cs o) → h2.get i = some (.cells cs o)) →
        ∃ h', (∀ (α : Type) (ret : Int → V → M α), strings_Builder_WriteString.f (k + 2) b x ret h = ret (x.length : Int) .nilIface h') ∧ Bd n0 h' b (l ++ x) ∧ (∀ i, i < n0 → h'.get i = h.get i) ∧ Plain h h' := by
      intro h2 s' ea en eb ei es eg ep
      have hbl := B.lt
      have hbn := B.new
      refine ⟨h2.put b.id (some (.cellsT 64 true [.ptr (some b), .slice s'])), fun α ret => (start α ret).trans ?_, ⟨B.off, by show b.id < h2.next; omega, B.new, .ptr (some b), s', put_get _ _ _, .inr rfl, .inr ⟨?_, by rw [es], by rw [es], ⟨h1.next, 0⟩, by rw [es], rfl, by show h1.next < h2.next; omega, by show n0 ≤ h1.next; omega, by show h1.next ≠ b.id; omega, ?_⟩⟩, fun i hi => ?_, by show h.next ≤ h2.next; omega, fun i cs o hi g => ?_⟩
      · rw [ea]
        exact st_typed (eb.trans g1) B.off _
      · intro hh
        exact h0 (List.append_eq_nil_iff.1 hh).2
      · show (h2.put b.id _).get h1.next = _
        rw [put_ne _ _ (by omega)]
        exact eg
      · have : i ≠ b.id := by omega
        rw [put_ne _ _ this, ei i hi, o1 _ this]
      · have : i ≠ b.id := by rintro rfl; rw [hg] at g; cases g
        rw [put_ne _ _ this]
        exact ep i cs o (by omega) (by rw [o1 _ this]; exact g)
    have hbl := B.lt
    rcases hl with ⟨rfl, rfl⟩ | ⟨q1, q2, q3, a, q4, q5, q6, q7, q8, q9⟩
    · refine fin (h1.push (.cellsT 5 false (toBytes x))) _ (fun α K => ?_) rfl (by rw [push_get, if_neg (by omega)]) (fun i hi => by have := B.new; rw [push_get, if_neg (by omega)]) rfl (by rw [push_get, if_pos rfl]; rfl) (fun i cs o hi g => by rw [push_get, if_neg (by omega)]; exact g)
      unfold appStrT
      rw [hxl, hb]
      simp only [cond_false, cond_true, Sl.nil, Nat.zero_add, List.nil_append]
    · have g2 : h1.get a.id = some (.cellsT 5 false (toBytes l)) := by rw [o1 _ q8]; exact q9
      refine fin ((h1.put a.id none).push (.cellsT 5 false (toBytes l ++ toBytes x))) _ (fun α K => ?_) rfl ?_ (fun i hi => ?_) rfl ?_ (fun i cs o hi g => ?_)
      · unfold appStrT
        rw [hxl, hb, q4]
        simp only [cond_false, cond_true]
        rw [g2]
        simp [q5, q2, q3, toBytes]
      · rw [push_get, if_neg (by show b.id ≠ h1.next; omega), put_ne _ _ (Ne.symm q8)]
      · rw [push_get, if_neg (by show i ≠ h1.next; omega), put_ne _ _ (by omega)]
      · rw [push_get, if_pos (show h1.next = (h1.put a.id none).next from rfl)]
        simp [toBytes]
      · have : i ≠ a.id := by rintro rfl; rw [g2] at g; cases g
        rw [push_get, if_neg (by show i ≠ h1.next; omega), put_ne _ _ this]; exact g
theorem bs_run (k : Nat) {n0 : Nat} {b : Ad} {l : List UInt8} (B : Bd n0 h b l) (hl : l.length ≤ 1000000000) :
    ∃ h', (∀ (α : Type) (ret : List UInt8 → M α), builder_String.f (k + 1) b ret h = ret l h') ∧ (∀ i, i < n0 → h'.get i = h.get i) ∧ h.next ≤ h'.next := by
  obtain ⟨p, s, hg, hp, hs⟩ := B.blk
  rcases hs with ⟨rfl, rfl⟩ | ⟨q1, q2, q3, a, q4, q5, q6, q7, q8, q9⟩
  · refine ⟨h, fun α ret => ?_, fun _ _ => rfl, Nat.le_refl _⟩
    rw [builder_String.f]
    unfold stringF
    rw [hg]
    simp [B.off, Sl.nil]
  · refine ⟨h.put a.id none, fun α ret => ?_, fun i hi => put_ne h _ (by omega), Nat.le_refl _⟩
    have hpos : 0 < l.length := List.length_pos_iff.2 q1
    rw [builder_String.f]
    unfold stringF
    rw [hg]
    dsimp only
    rw [B.off, q4]
    dsimp only
    rw [q9]
    dsimp only
    rw [q5, q2, show (toBytes l).length = l.length by simp [toBytes], show Nat.blt 0 l.length = true from Nat.ble_eq_true_of_le hpos, Nat.ble_eq_true_of_le (by omega : l.length ≤ 281474976710656), bytesT_to]
    simp
end Go.Ab.S3
namespace Go.Ab.S3
set_option linter.unusedVariables false
set_option linter.unusedSimpArgs false
variable {α : Type} {h : H}
def Tr.kind : Tr → Int
  | .leaf k _ _ => k
  | .un k _ _ _ => k
  | .bin k _ _ _ _ => k
def brk (over k : Int) (first : Bool) : Bool :=
  cond (fixK over) false (cond (fixK k) true (cond (decide (k = 7)) (!decide (over = 7) || !first) (cond (decide (k = 6)) (!decide (over = 7) && (!decide (over = 6) || !first)) false)))
def headP (k : Int) (s : List UInt8) : List UInt8 :=
  if k = 1 then [116, 116] else if k = 2 then [102, 102] else if k = 5 then [126] else if k = 8 then [60] ++ s ++ [62] else if k = 9 then [91] ++ s ++ [93] else if k = 10 then [109, 117, 32] ++ s ++ [46, 32] else if k = 11 then [110, 117, 32] ++ s ++ [46, 32] else s
def paren (b : Bool) (l : List UInt8) : List UInt8 := if b = true then [40] ++ l ++ [41] else l
def prT : Tr → List UInt8
  | .leaf k s _ => headP k s
  | .un k s _ a => headP k s ++ paren (brk k a.kind true) (prT a)
  | .bin k s _ a b => paren (brk k a.kind true) (prT a) ++ ((if k = 7 then [32, 124, 32] else [32, 38, 32]) ++ paren (brk k b.kind false) (prT b))
theorem sfix_run (k : Nat) (x : Int) (ret : Bool → M α) : syntax_fix.f (k + 1) x ret h = ret (fixK x) h := by
  rw [syntax_fix.f]
  unfold syntax_fix.u1.f fixK
  cases decide (x = 10) <;> rfl
theorem operand_run (k : Nat) {b : Ad} {f : Sl} {l : List Nd} {h₀ : H} (r : NdR h₀ f l) {i : Nat} {n : Nd} (hn : l[i]? = some n) {w : List UInt8} {N : Nat} (hN : w.length ≤ N)
    (W : ∀ (h : H) (acc : List UInt8), Ext h₀ h → Bd h₀.next h b acc → acc.length + N ≤ 900000000 → ∃ h', (∀ (α : Type) (K : M α), syntax_write.f (k + 2) b f (i : Int) K h = K h') ∧ Ext h₀ h' ∧ Bd h₀.next h' b (acc ++ w) ∧ Plain h h')
    (over : Int) (first : Bool) (h : H) (acc : List UInt8) (x : Ext h₀ h) (B : Bd h₀.next h b acc) (hl : acc.length + N + 2 ≤ 900000000) :
    ∃ h', (∀ (α : Type) (K : M α), syntax_operand.f (k + 3) b f (i : Int) over first K h = K h') ∧ Ext h₀ h' ∧ Bd h₀.next h' b (acc ++ paren (brk over n.kind first) w) ∧ Plain h h' := by
  have ext : ∀ {h1 h2 : H}, Ext h₀ h1 → (∀ q, q < h₀.next → h2.get q = h1.get q) → h1.next ≤ h2.next → Ext h₀ h2 := fun y hg hn => ⟨Nat.le_trans y.1 hn, fun q hq => by rw [hg q hq]; exact y.2 q hq⟩
  cases hb : brk over n.kind first with
  | false =>
    obtain ⟨h', e, x', B', p'⟩ := W h acc x B (by omega)
    refine ⟨h', fun α K => ?_, x', by simpa [paren] using B', p'⟩
    have fx : ∀ (K : Bool → M α), syntax_fix.f (k + 2) n.kind K = K (fixK n.kind) := fun K => funext fun _ => sfix_run _ _ _
    rw [syntax_operand.f, syntax_operand.u1.f, nd_kind (r.ext x) rfl hn, sfix_run, fx]
    unfold brk at hb
    revert hb
    cases fixK over <;> cases fixK n.kind <;> cases decide (n.kind = 7) <;> cases decide (over = 7) <;> cases decide (n.kind = 6) <;> cases decide (over = 6) <;> cases first <;> intro hb <;> first | (cases hb; done) | exact e α K
  | true =>
    obtain ⟨h1, e1, B1, g1, n1⟩ := ws_run k B [40] (by simp; omega)
    have x1 := ext x g1 n1.1
    obtain ⟨h2, e2, x2, B2, p2⟩ := W h1 _ x1 B1 (by simp; omega)
    obtain ⟨h3, e3, B3, g3, n3⟩ := ws_run k B2 [41] (by simp; omega)
    have e : ∀ (α : Type) (K : M α), (strings_Builder_WriteString.f (k + 2) b [40] fun _ _ => syntax_write.f (k + 2) b f (i : Int) (strings_Builder_WriteString.f (k + 2) b [41] fun _ _ => K)) h = K h3 := by
      intro α K
      rw [e1, e2, e3]
    refine ⟨h3, fun α K => ?_, ext x2 g3 n3.1, by simpa [paren] using B3, (n1.trans p2).trans n3⟩
    have fx : ∀ (K : Bool → M α), syntax_fix.f (k + 2) n.kind K = K (fixK n.kind) := fun K => funext fun _ => sfix_run _ _ _
    rw [syntax_operand.f, syntax_operand.u1.f, nd_kind (r.ext x) rfl hn, sfix_run, fx]
    unfold brk at hb
    revert hb
    cases fixK over <;> cases fixK n.kind <;> cases decide (n.kind = 7) <;> cases decide (over = 7) <;> cases decide (n.kind = 6) <;> cases decide (over = 6) <;> cases first <;> intro hb <;> first | (cases hb; done) | exact e α K
end Go.Ab.S3
namespace Go.Ab.S3
set_option linter.unusedVariables false
set_option linter.unusedSimpArgs false
variable {α : Type} {h : H}
theorem cat_run {a b : List UInt8} {K : List UInt8 → M α} (hl : a.length + b.length ≤ 4611686018427387904) : cat a b K h = K (a ++ b) h := by
  unfold cat
  rw [need_run (Nat.ble_eq_true_of_le hl)]
theorem spelt_len {lo hi : Int} {s : List UInt8} (h : speltF lo hi s = true) : s.length ≤ 8 := by
  cases s with
  | nil => exact Nat.zero_le _
  | cons c r =>
    simp only [speltF, Bool.and_eq_true, decide_eq_true_eq] at h
    have := h.1.1.1
    simp only [List.length_cons]; omega
theorem named_len {k : Int} {s : List UInt8} (h : namedF k s = true) : s.length ≤ 8 := by
  unfold namedF nameF varF at h
  split at h
  · rw [Bool.and_eq_true] at h; exact spelt_len h.1
  split at h
  · exact spelt_len h
  split at h
  · rw [Bool.or_eq_true] at h
    rcases h with h | h
    · rw [of_decide_eq_true h]; decide
    · rw [Bool.and_eq_true] at h; exact spelt_len h.1
  · rw [of_decide_eq_true h]; decide
theorem headP_len (k : Int) {s : List UInt8} (h : s.length ≤ 8) : (headP k s).length ≤ 13 := by
  unfold headP
  repeat' split
  all_goals (try simp only [List.length_append, List.length_cons, List.length_nil])
  all_goals omega
theorem paren_len (b : Bool) (w : List UInt8) : (paren b w).length ≤ w.length + 2 := by
  cases b <;> simp [paren]
theorem prT_len : ∀ t : Tr, t.ok = true → (prT t).length ≤ 20 * t.size
  | .leaf k s p, h => by
    simp only [Tr.ok, Bool.and_eq_true] at h
    have := headP_len k (named_len h.2)
    simp only [prT, Tr.size]; omega
  | .un k s p a, h => by
    simp only [Tr.ok, Bool.and_eq_true] at h
    have := headP_len k (named_len h.1.2)
    have := paren_len (brk k a.kind true) (prT a)
    have := prT_len a h.2
    simp only [prT, Tr.size, List.length_append]; omega
  | .bin k s p a b, h => by
    simp only [Tr.ok, Bool.and_eq_true] at h
    have := paren_len (brk k a.kind true) (prT a)
    have := paren_len (brk k b.kind false) (prT b)
    have := prT_len a h.1.2
    have := prT_len b h.2
    have : (if k = 7 then [32, 124, 32] else [32, 38, 32] : List UInt8).length = 3 := by split <;> rfl
    simp only [prT, Tr.size, List.length_append]; omega
theorem write_head (k : Nat) {b : Ad} {f : Sl} {l : List Nd} (r : NdR h f l) {i : Nat} {n : Nd} (hn : l[i]? = some n) (hs : n.name.length ≤ 8) (h6 : n.kind ≠ 6) (h7 : n.kind ≠ 7) (K : M α) :
    syntax_write.f (k + 1) b f (i : Int) K h = strings_Builder_WriteString.f k b (headP n.kind n.name) (fun _ _ => syntax_write.u2.f k (fun z0 z1 z2 z3 z4 z5 => syntax_operand.f k z0 z1 z2 z3 z4 z5) b f ⟨h.next, 0⟩ K) (h.push (ndC n)) := by
  rw [syntax_write.f, syntax_write.u3.f, syntax_write.u1.f, nd_rd r rfl hn, nd_copy]
  have hq : (h.push (ndC n)).get h.next = some (ndC n) := by rw [push_get, if_pos rfl]
  rw [own_kind hq]
  unfold headP
  by_cases h1 : n.kind = 1
  · rw [dT h1, cond_true, if_pos h1]
  rw [dF h1, cond_false, if_neg h1]
  by_cases h2 : n.kind = 2
  · rw [dT h2, cond_true, if_pos h2]
  rw [dF h2, cond_false, if_neg h2]
  by_cases h5 : n.kind = 5
  · rw [dT h5, cond_true, if_pos h5]
  rw [dF h5, cond_false, if_neg h5]
  by_cases h8 : n.kind = 8
  · rw [dT h8, cond_true, if_pos h8, own_name hq, cat_run (by simp; omega), cat_run (by simp; omega)]
  rw [dF h8, cond_false, if_neg h8]
  by_cases h9 : n.kind = 9
  · rw [dT h9, cond_true, if_pos h9, own_name hq, cat_run (by simp; omega), cat_run (by simp; omega)]
  rw [dF h9, cond_false, if_neg h9]
  by_cases h10 : n.kind = 10
  · rw [dT h10, cond_true, if_pos h10, own_name hq, cat_run (by simp; omega), cat_run (by simp; omega)]
  rw [dF h10, cond_false, if_neg h10]
  by_cases h11 : n.kind = 11
  · rw [dT h11, cond_true, if_pos h11, own_name hq, cat_run (by simp; omega), cat_run (by simp; omega)]
  rw [dF h11, cond_false, if_neg h11, dF h6, cond_false, dF h7, cond_false, own_name hq]
theorem write_two (k : Nat) {b : Ad} {f : Sl} {l : List Nd} (r : NdR h f l) {i : Nat} {n : Nd} (hn : l[i]? = some n) (hk : n.kind = 6 ∨ n.kind = 7) (K : M α) :
    syntax_write.f (k + 1) b f (i : Int) K h = syntax_operand.f k b f n.a n.kind true (ldI .i64 (((⟨h.next, 0⟩ : Ad).add 0).add 0) fun x => cond (decide (x = 7)) (
        strings_Builder_WriteString.f k b [32, 124, 32] fun _ _ => ldI .i64 (((⟨h.next, 0⟩ : Ad).add 2).add 0) fun x44 => ldI .i64 (((⟨h.next, 0⟩ : Ad).add 0).add 0) fun x45 => syntax_operand.f k b f x44 x45 false K)
        (strings_Builder_WriteString.f k b [32, 38, 32] fun _ _ => ldI .i64 (((⟨h.next, 0⟩ : Ad).add 2).add 0) fun x44 => ldI .i64 (((⟨h.next, 0⟩ : Ad).add 0).add 0) fun x45 => syntax_operand.f k b f x44 x45 false K)) (h.push (ndC n)) := by
  rw [syntax_write.f, syntax_write.u3.f, syntax_write.u1.f, nd_rd r rfl hn, nd_copy]
  have hq : (h.push (ndC n)).get h.next = some (ndC n) := by rw [push_get, if_pos rfl]
  rw [own_kind hq]
  have e1 : n.kind ≠ 1 ∧ n.kind ≠ 2 ∧ n.kind ≠ 5 ∧ n.kind ≠ 8 ∧ n.kind ≠ 9 ∧ n.kind ≠ 10 ∧ n.kind ≠ 11 := by omega
  obtain ⟨a1, a2, a5, a8, a9, a10, a11⟩ := e1
  rw [dF a1, cond_false, dF a2, cond_false, dF a5, cond_false, dF a8, cond_false, dF a9, cond_false, dF a10, cond_false, dF a11, cond_false]
  rcases hk with hk | hk
  · rw [dT hk, cond_true, cond_true, own_a hq, own_kind hq]
  · rw [dF (by omega : ¬ n.kind = 6), cond_false, dT hk, cond_true, own_a hq, own_kind hq]
def WrRun (f : Sl) (l : List Nd) (b : Ad) (h₀ : H) (t : Tr) : Prop :=
  ∀ (base k : Nat), (∀ i n, (t.flat base)[i]? = some n → l[base + i]? = some n) → 2 * t.size + 20 ≤ k → ∀ (h : H) (acc : List UInt8), Ext h₀ h → Bd h₀.next h b acc → acc.length + 20 * t.size ≤ 900000000 →
    ∃ h', (∀ (α : Type) (K : M α), syntax_write.f k b f ((base + t.size - 1 : Nat) : Int) K h = K h') ∧ Ext h₀ h' ∧ Bd h₀.next h' b (acc ++ prT t) ∧ Plain h h'
theorem Bd.ext {n0 : Nat} {h h' : H} {b : Ad} {l : List UInt8} (B : Bd n0 h b l) (x : Ext h h') : Bd n0 h' b l := by
  obtain ⟨p, s, hg, hp, hl⟩ := B.blk
  refine ⟨B.off, Nat.lt_of_lt_of_le B.lt x.1, B.new, p, s, by rw [x.2 _ B.lt]; exact hg, hp, hl.imp id ?_⟩
  rintro ⟨q1, q2, q3, a, q4, q5, q6, q7, q8, q9⟩
  exact ⟨q1, q2, q3, a, q4, q5, Nat.lt_of_lt_of_le q6 x.1, q7, q8, by rw [x.2 _ q6]; exact q9⟩
theorem ext_of {h₀ h1 h2 : H} (y : Ext h₀ h1) (hg : ∀ q, q < h₀.next → h2.get q = h1.get q) (hn : h1.next ≤ h2.next) : Ext h₀ h2 :=
  ⟨Nat.le_trans y.1 hn, fun q hq => by rw [hg q hq]; exact y.2 q hq⟩
end Go.Ab.S3
namespace Go.Ab.S3
set_option linter.unusedVariables false
set_option linter.unusedSimpArgs false
variable {α : Type} {h : H}
section
variable {f : Sl} {l : List Nd} {b : Ad} {h₀ : H}
theorem tr_root (t : Tr) (base : Nat) : (t.flat base)[t.size - 1]? = some (t.node base) := by
  cases t with
  | leaf k s p => rfl
  | un k s p a =>
    simp only [Tr.flat, Tr.size]
    rw [List.getElem?_append_right (by rw [flat_length]; omega), flat_length]
    simp
  | bin k s p a b =>
    simp only [Tr.flat, Tr.size]
    rw [List.getElem?_append_right (by rw [flat_length]; omega), flat_length, List.getElem?_append_right (by rw [flat_length]; omega), flat_length, show a.size + b.size + 1 - 1 - a.size - b.size = 0 by omega]
    rfl
theorem node_kind (t : Tr) (base : Nat) : (t.node base).kind = t.kind := by cases t <;> rfl
theorem root_at {t : Tr} {base : Nat} (hfl : ∀ i n, (t.flat base)[i]? = some n → l[base + i]? = some n) : l[base + t.size - 1]? = some (t.node base) := by
  have := hfl _ _ (tr_root t base)
  have hp := Tr.pos t
  rw [show base + t.size - 1 = base + (t.size - 1) by omega]
  exact this
theorem opd_run (r : NdR h₀ f l) {t : Tr} (ht : t.ok = true) (W : WrRun f l b h₀ t) {base : Nat} (hfl : ∀ i n, (t.flat base)[i]? = some n → l[base + i]? = some n) {k : Nat} (hk : 2 * t.size + 21 ≤ k) (over : Int) (first : Bool) (h : H) (acc : List UInt8) (x : Ext h₀ h) (B : Bd h₀.next h b acc) (hl : acc.length + 20 * t.size + 2 ≤ 900000000) :
    ∃ h', (∀ (α : Type) (K : M α), syntax_operand.f k b f ((base + t.size - 1 : Nat) : Int) over first K h = K h') ∧ Ext h₀ h' ∧ Bd h₀.next h' b (acc ++ paren (brk over t.kind first) (prT t)) ∧ Plain h h' := by
  obtain ⟨k, rfl⟩ : ∃ q, k = q + 3 := ⟨k - 3, by omega⟩
  have := operand_run k r (root_at hfl) (w := prT t) (prT_len t ht) (fun h acc x B hl => W base (k + 2) hfl (by omega) h acc x B hl) over first h acc x B hl
  rw [node_kind] at this
  exact this
theorem ar_67 {kd : Int} (h : arF kd ≠ 2) : kd ≠ 6 ∧ kd ≠ 7 := by
  constructor <;> (rintro rfl; exact h (by decide))
theorem ar_two {kd : Int} (h : arF kd = 2) : kd = 6 ∨ kd = 7 := by
  unfold arF at h
  split at h
  · omega
  split at h
  · omega
  split at h
  · assumption
  · omega
theorem bel_of {kd : Int} {m : Int} (h : arF kd = m) (h0 : 0 ≤ m) : belF kd = m := by
  unfold belF
  rw [if_neg (by omega), h]
theorem head_go (r : NdR h₀ f l) {i : Nat} {n : Nd} (hn : l[i]? = some n) (hok : namedF n.kind n.name = true) (h2 : arF n.kind ≠ 2) (k : Nat) (hk : 20 ≤ k) (h : H) (acc : List UInt8) (x : Ext h₀ h) (B : Bd h₀.next h b acc) (hl : acc.length + (headP n.kind n.name).length ≤ 900000000) :
    ∃ h', (∀ (α : Type) (K : M α), syntax_write.f (k + 1) b f (i : Int) K h = cond (decide (belF n.kind = 1)) (syntax_operand.f k b f n.a n.kind true K) K h') ∧ Ext h₀ h' ∧ Bd h₀.next h' b (acc ++ headP n.kind n.name) ∧ Plain h h' := by
  obtain ⟨k, rfl⟩ : ∃ q, k = q + 2 := ⟨k - 2, by omega⟩
  have hs := named_len hok
  have hx := headP_len n.kind hs
  have x1 : Ext h (h.push (ndC n)) := (Ext.refl h).push _
  have hq : (h.push (ndC n)).get h.next = some (ndC n) := by rw [push_get, if_pos rfl]
  obtain ⟨h2', e2, B2, g2, p2⟩ := ws_run k (B.ext x1) (headP n.kind n.name) (by omega)
  have hlt : h.next < (h.push (ndC n)).next := by rw [push_next]; omega
  have hq2 : h2'.get h.next = some (ndC n) := p2.2 _ _ _ hlt hq
  have x2 : Ext h₀ h2' := ext_of (x.trans x1) g2 p2.1
  have x3 : Ext h2' (h2'.push (ndC n)) := (Ext.refl h2').push _
  have hq3 : (h2'.push (ndC n)).get h.next = some (ndC n) := by rw [x3.2 _ (by have := p2.1; omega)]; exact hq2
  obtain ⟨a6, a7⟩ := ar_67 h2
  refine ⟨h2'.push (ndC n), fun α K => ?_, x2.trans x3, B2.ext x3, ((Ext.plain x1).trans p2).trans (Ext.plain x3)⟩
  rw [write_head (k + 2) (r.ext x) hn hs a6 a7, e2, syntax_write.u2.f, own_all hq2, below_run (k + 1) (by omega)]
  by_cases hb : belF n.kind = 1
  · rw [dT hb, cond_true, cond_true]
    show (ldI .i64 (((⟨h.next, 0⟩ : Ad).add 1).add 0) _) (h2'.push (ndC n)) = _
    rw [own_a hq3, own_kind hq3]
  · rw [dF hb, cond_false, cond_false]
theorem write_run (r : NdR h₀ f l) : ∀ t : Tr, t.ok = true → WrRun f l b h₀ t
  | .leaf kd s p, hok => by
    intro base k hfl hk h acc x B hl
    simp only [Tr.ok, Bool.and_eq_true, decide_eq_true_eq] at hok
    obtain ⟨k, rfl⟩ : ∃ q, k = q + 1 := ⟨k - 1, by omega⟩
    have hi := root_at hfl
    obtain ⟨h', e, x', B', p'⟩ := head_go r hi hok.2 (by show arF kd ≠ 2; rw [hok.1]; decide) k (by simp only [Tr.size] at hk; omega) h acc x B (by have := headP_len kd (named_len hok.2); simp only [Tr.size] at hl; show acc.length + (headP kd s).length ≤ _; omega)
    refine ⟨h', fun α K => ?_, x', B', p'⟩
    rw [e, dF (by rw [show belF ((Tr.leaf kd s p).node base).kind = 0 from bel_of hok.1 (by decide)]; decide), cond_false]
  | .un kd s p a, hok => by
    intro base k hfl hk h acc x B hl
    simp only [Tr.ok, Bool.and_eq_true, decide_eq_true_eq] at hok
    obtain ⟨k, rfl⟩ : ∃ q, k = q + 1 := ⟨k - 1, by omega⟩
    have hi := root_at hfl
    have hsub := flat_sub (l := l) (a := a) (base := base) (rest := [(Tr.un kd s p a).node base]) hfl
    have hh := headP_len kd (named_len hok.1.2)
    simp only [Tr.size] at hk hl
    obtain ⟨h1, e1, x1, B1, p1⟩ := head_go r hi hok.1.2 (by show arF kd ≠ 2; rw [hok.1.1]; decide) k (by omega) h acc x B (by show acc.length + (headP kd s).length ≤ _; omega)
    obtain ⟨h2, e2, x2, B2, p2⟩ := opd_run r hok.2 (write_run r a hok.2) hsub.1 (k := k) (by omega) kd true h1 _ x1 B1 (by show (acc ++ headP kd s).length + _ + 2 ≤ _; rw [List.length_append]; omega)
    refine ⟨h2, fun α K => ?_, x2, ?_, p1.trans p2⟩
    · rw [e1, dT (show belF ((Tr.un kd s p a).node base).kind = 1 from bel_of hok.1.1 (by decide)), cond_true]
      exact e2 α K
    · rw [prT, ← List.append_assoc]; exact B2
  | .bin kd s p a c, hok => by
    intro base k hfl hk h acc x B hl
    simp only [Tr.ok, Bool.and_eq_true, decide_eq_true_eq] at hok
    obtain ⟨k, rfl⟩ : ∃ q, k = q + 3 := ⟨k - 3, by omega⟩
    have hi := root_at hfl
    have hs1 := flat_sub (l := l) (a := a) (base := base) (rest := c.flat (base + a.size) ++ [(Tr.bin kd s p a c).node base]) hfl
    have hs2 := flat_sub (l := l) (a := c) (base := base + a.size) (rest := [(Tr.bin kd s p a c).node base]) hs1.2
    have hk2 := ar_two hok.1.1.1
    simp only [Tr.size] at hk hl
    have hsg : (if kd = 7 then [32, 124, 32] else [32, 38, 32] : List UInt8).length = 3 := by split <;> rfl
    have hla := paren_len (brk kd a.kind true) (prT a)
    have hlb := prT_len a hok.1.2
    have x1 : Ext h (h.push (ndC ((Tr.bin kd s p a c).node base))) := (Ext.refl h).push _
    have hq : (h.push (ndC ((Tr.bin kd s p a c).node base))).get h.next = some (ndC ((Tr.bin kd s p a c).node base)) := by rw [push_get, if_pos rfl]
    have hlt : h.next < (h.push (ndC ((Tr.bin kd s p a c).node base))).next := by rw [push_next]; omega
    obtain ⟨h2, e2, x2, B2, p2⟩ := opd_run r hok.1.2 (write_run r a hok.1.2) hs1.1 (k := k + 2) (by omega) kd true _ _ (x.trans x1) (B.ext x1) (by omega)
    have hq2 := p2.2 _ _ _ hlt hq
    obtain ⟨h3, e3, B3, g3, p3⟩ := ws_run k B2 (if kd = 7 then [32, 124, 32] else [32, 38, 32]) (by rw [List.length_append]; omega)
    have hlt2 : h.next < h2.next := Nat.lt_of_lt_of_le hlt p2.1
    have hq3 := p3.2 _ _ _ hlt2 hq2
    obtain ⟨h4, e4, x4, B4, p4⟩ := opd_run r hok.2 (write_run r c hok.2) hs2.1 (k := k + 2) (by omega) kd false _ _ (ext_of x2 g3 p3.1) B3 (by rw [List.length_append, List.length_append]; omega)
    refine ⟨h4, fun α K => ?_, x4, ?_, (((Ext.plain x1).trans p2).trans p3).trans p4⟩
    · rw [write_two (k + 2) (r.ext x) hi hk2]
      refine (e2 α _).trans ?_
      rw [own_kind hq2]
      by_cases h7 : kd = 7
      · rw [if_pos h7] at e3
        rw [dT (show ((Tr.bin kd s p a c).node base).kind = 7 from h7), cond_true, e3, own_b hq3, own_kind hq3]
        exact e4 α K
      · rw [if_neg h7] at e3
        rw [dF (show ¬ ((Tr.bin kd s p a c).node base).kind = 7 from h7), cond_false, e3, own_b hq3, own_kind hq3]
        exact e4 α K
    · rw [prT, ← List.append_assoc, ← List.append_assoc]; exact B4
end
end Go.Ab.S3
namespace Go.Ab.S3
set_option linter.unusedVariables false
set_option linter.unusedSimpArgs false
variable {α : Type} {h : H}
theorem newT_run {t : Nat} {cs : List V} {K : Ad → M α} (hc : cs.all oneV = true) : newT t cs K h = K ⟨h.next, 0⟩ (h.push (.cellsT t true cs)) := by
  unfold newT; rw [need_run hc]
theorem print_run (k : Nat) (hk : 200 ≤ k) {f : Sl} {t : Tr} (ht : t.ok = true) (hs : t.size ≤ 60) (h : H) (r : NdR h f (t.flat 0)) :
    ∃ h', (∀ (α : Type) (ret : List UInt8 → M α), syntax_Print.f (k + 1) f ret h = ret (prT t) h') ∧ Ext h h' := by
  obtain ⟨k, rfl⟩ : ∃ q, k = q + 1 := ⟨k - 1, by omega⟩
  have hR : rightF (t.flat 0) = true := (right_iff _).2 ⟨t, ht, rfl, hs⟩
  obtain ⟨h1, e1, x1⟩ := right_run k (by omega) h r
  have hpos := Tr.pos t
  have hlen := nd_slen r
  rw [flat_length] at hlen
  have x2 : Ext h1 (h1.push (.cellsT 64 true [.ptr none, .slice Sl.nil])) := (Ext.refl h1).push _
  have B : Bd h1.next (h1.push (.cellsT 64 true [.ptr none, .slice Sl.nil])) ⟨h1.next, 0⟩ [] :=
    ⟨rfl, by show h1.next < h1.next + 1; omega, Nat.le_refl _, .ptr none, Sl.nil, by show (h1.push _).get h1.next = _; rw [push_get, if_pos rfl], .inl rfl, .inl ⟨rfl, rfl⟩⟩
  obtain ⟨h3, e3, x3, B3, _⟩ := write_run (b := ⟨h1.next, 0⟩) (r.ext x1) t ht 0 (k + 1) (fun i n hi => by rw [Nat.zero_add]; exact hi) (by omega) _ [] x2 B (by simp; omega)
  obtain ⟨h4, e4, g4, n4⟩ := bs_run k B3 (by have := prT_len t ht; rw [List.nil_append]; omega)
  refine ⟨h4, fun α ret => ?_, x1.trans (ext_of x3 g4 n4)⟩
  rw [syntax_Print.f, syntax_Print.u1.f, e1, hR, Bool.not_true, cond_false, newT_run rfl, hlen, w64_eq (by omega) (by omega)]
  rw [show ((t.size : Int) - 1) = ((0 + t.size - 1 : Nat) : Int) by omega, e3, e4, List.nil_append]
section
variable {f : Sl} {l : List Nd} {h₀ : H}
end
end Go.Ab.S3
namespace Go.Ab.S3
set_option linter.unusedVariables false
set_option linter.unusedSimpArgs false
theorem Room.le {n : Nat} (h : Room n) : n ≤ 4611686018427387900 := by unfold Room at h; omega
end Go.Ab.S3
namespace Go.Ab.S3
set_option linter.unusedVariables false
set_option linter.unusedSimpArgs false
variable {α : Type} {h : H}
def ty1 : Tr := .bin 7 [] 6 (.bin 6 [] 2 (.leaf 3 [112] 0) (.leaf 3 [113] 4)) (.un 5 [] 8 (.leaf 3 [114] 9))
theorem py1 : parseF [112, 32, 38, 32, 113, 32, 124, 32, 126, 114] = .ok (ty1.flat 0) := by kernel_rfl
theorem shown4_run (k : Nat) (hk : 4000000 ≤ k) (h : H) : ∃ h', (∀ (α : Type) (ret : Bool → M α), w4shown.f (k + 1) ret h = ret true h') ∧ Ext h h' := by
  obtain ⟨k, rfl⟩ : ∃ q, k = q + 1 := ⟨k - 1, by omega⟩
  have a1 := parse_run k (by omega) [112, 32, 38, 32, 113, 32, 124, 32, 126, 114] h
  rw [py1] at a1
  obtain ⟨h1, s1, e1, x1, p1, _⟩ := a1
  obtain ⟨h2, e2, x2⟩ := print_run k (by omega) (t := ty1) (by decide) (by decide) h1 p1.rd
  refine ⟨h2, fun α ret => ?_, x1.trans x2⟩
  have hl : s1.len = 6 := nd_slen p1.rd
  have hn : (ty1.flat 0)[5]? = some ⟨7, 2, 4, [], 6⟩ := by decide
  rw [w4shown.f, w4shown.u1.f, e1, asNil_nil, Bool.not_true, cond_false, hl, dT (by decide : ((6 : Nat) : Int) = 6), Bool.not_true, cond_false, nd_rd p1.rd (x := 5) (i := 5) rfl hn]
  rw [show (decide ((7 : Int) = 7) && (decide ((2 : Int) = 2) && (decide ((4 : Int) = 4) && (decide (([] : List UInt8) = []) && (decide ((6 : Int) = 6) && true))))) = true from rfl, cond_true, e2]
  rw [dT (by decide : prT ty1 = [112, 32, 38, 32, 113, 32, 124, 32, 126, 114])]
end Go.Ab.S3
namespace Go.Ab.S3
set_option linter.unusedVariables false
set_option linter.unusedSimpArgs false
variable {α : Type} {h : H}
theorem parseF_or (text : List UInt8) : (∃ F ts t, parseF text = .ok F ∧ Psd text F ts t) ∨ ∃ e, parseF text = .error e := by
  cases hp : parseF text with
  | ok F =>
    obtain ⟨ts, t, p⟩ := parsed hp
    exact .inl ⟨F, ts, t, rfl, p⟩
  | error e => exact .inr ⟨e, rfl⟩
theorem parse_good (k : Nat) (hk : 3000000 ≤ k) {text : List UInt8} {l : List Nd} (hp : parseF text = .ok l) (h : H) :
    ∃ h' s, (∀ (α : Type) (ret : Sl → V → M α), syntax_Parse.f (k + 1) text ret h = ret s .nilIface h') ∧ Ext h h' ∧ App h' s 5 (cN l) ∧ Owned h s := by
  have := parse_run k hk text h
  rw [hp] at this
  exact this
theorem parse_fails (k : Nat) (hk : 3000000 ≤ k) {text : List UInt8} {e : Er} (hp : parseF text = .error e) (h : H) :
    ∃ h' q, (∀ (α : Type) (ret : Sl → V → M α), syntax_Parse.f (k + 1) text ret h = ret Sl.nil (.iface 75 (.ptr (some ⟨q, 0⟩))) h') ∧ Ext h h' ∧ h.next ≤ q ∧ q < h'.next ∧ h'.get q = some (.cells [.int .i64 e.1, .int .i64 e.2] true) := by
  have := parse_run k hk text h
  rw [hp] at this
  exact this
theorem cut20 (text : List UInt8) (K : List UInt8 → M α) : cutStr text none (some (if 20000 < (text.length : Int) then 20000 else (text.length : Int))) K h = K (text.take (min text.length 20000)) h := by
  have e : (if 20000 < (text.length : Int) then 20000 else (text.length : Int)) = ((min text.length 20000 : Nat) : Int) := by split <;> omega
  rw [e, cutStr_to rfl (by omega)]
theorem eq_nd (a b : Nd) : (decide (a.kind = b.kind) && (decide (a.a = b.a) && (decide (a.b = b.b) && (decide (a.name = b.name) && (decide (a.pos = b.pos) && true))))) = decide (a = b) := nd_eq a b
theorem set_own {h : H} {n : Nd} {j : Nat} {v : V} (n' : Nd) (hj : j < 5) (hv : oneV v = true) (hs : n'.cells = n.cells.set j v) (K : M α) : st1 (((⟨h.next, 0⟩ : Ad).add j).add 0) v K (h.push (ndC n)) = K (h.push (ndC n')) := by
  simp only [add_mk, Nat.zero_add, Nat.add_zero]
  rw [st1_new hv hj]
  show K (h.push (.cells (n.cells.set j v) true)) = _
  rw [← hs]
  rfl
section
variable {a b : Sl} {F L G : List Nd}
end
end Go.Ab.S3
namespace Go.Ab.S3
set_option linter.unusedVariables false
set_option linter.unusedSimpArgs false
variable {α : Type} {h : H}
section
variable {a b c : Sl} {F L : List Nd}
theorem steps_inner (k : Nat) {h₀ : H} (r : NdR h₀ a F) (q : NdR h₀ b L) {T : List (List UInt8)} (rc : Rd h₀ c 1 (T.flatMap cS)) {i : Nat} {w : List UInt8} (hw : T[i]? = some w) (hwl : w.length ≤ 20) (hm : ∀ (i : Nat) (n : Nd), F[i]? = some n → L[i]? = some (n.mv 0 ((w.length : Int) + 1))) (hb : ∀ (i : Nat) (n : Nd), F[i]? = some n → 0 ≤ n.pos ∧ n.pos ≤ 262144) (hF : F.length ≤ 60) (x : List UInt8) (s4 : Sl) : ∀ (j m : Nat) (h : H), m ≤ F.length → F.length - m < j → Ext h₀ h →
    ∃ h', Ext h₀ h' ∧ ∀ (α : Type) (kr : Bool → M α) (kx : List UInt8 → Sl → Int → Sl → Sl → Int → M α), w4SyntaxSteps.u6.l k kr kx j x a (F.length : Int) c s4 (i : Int) b (m : Int) h = kx x a (F.length : Int) c s4 (i : Int) h' := by
  intro j
  induction j with
  | zero => intro i h hi hj; omega
  | succ j ih =>
    intro m h hi hj e
    by_cases hlt : m < F.length
    rotate_left
    · refine ⟨h, e, fun α kr kx => ?_⟩
      rw [w4SyntaxSteps.u6.l, w4SyntaxSteps.u5.f, dF (by omega : ¬ (m : Int) < (F.length : Int)), cond_false]
    have hn : F[m]? = some F[m] := List.getElem?_eq_getElem hlt
    have hl := hm m _ hn
    have hp := hb m _ hn
    generalize F[m] = n at hn hl hp
    have x1 : Ext h (h.push (ndC (n.mv 0 ((w.length : Int) + 1)))) := (Ext.refl h).push _
    obtain ⟨h', e', g⟩ := ih (m + 1) (h.push (ndC (n.mv 0 ((w.length : Int) + 1)))) (by omega) (by omega) (e.trans x1)
    refine ⟨h', e', fun α kr kx => ?_⟩
    have hq : ∀ n : Nd, (h.push (ndC n)).get h.next = some (ndC n) := fun n => by rw [push_get, if_pos rfl]
    have x0 : Ext h (h.push (ndC n)) := (Ext.refl h).push _
    rw [w4SyntaxSteps.u6.l, w4SyntaxSteps.u5.f, dT (by omega : (m : Int) < (F.length : Int)), cond_true, nd_rd (r.ext e) rfl hn, nd_copy]
    have p4 : ∀ K : Int → M α, ldI .i64 (((⟨h.next, 0⟩ : Ad).add 4).add 0) K (h.push (ndC n)) = K n.pos (h.push (ndC n)) := fun K => ldI_run (by simp only [add_mk]; rw [cell_of (a := ⟨h.next, 0 + 4 + 0⟩) (hq n)]; rfl)
    rw [p4, str_rd (rc.ext (e.trans x0)) rfl hw, w64_eq (n := n.pos + (w.length : Int)) (by omega) (by omega), w64_eq (by omega) (by omega), set_own (n.mv 0 ((w.length : Int) + 1)) (by decide) rfl (by unfold Nd.mv Nd.cells; simp; omega), nd_rd (q.ext (e.trans x1)) rfl hl, own_all (hq _), eq_nd, dT rfl, Bool.not_true, cond_false, w64_eq (by omega) (by omega)]
    exact g α kr kx
def wantN (n : Nat) (x : List UInt8 × Int × List UInt8) : Nd := ⟨x.2.1, (n : Int) - 1, 0, x.2.2, 0⟩
theorem steps_loop (k : Nat) (hk : 4000000 ≤ k) {h₀ : H} {text : List UInt8} {ts : List Tok} {t : Tr} (p : Psd text F ts t) (hl : text.length ≤ 20000) (hlt : F.length < 60) (r : NdR h₀ a F) {s4 : Sl} (rc : Rd h₀ c 1 ((aheadL.map fun x => x.1).flatMap cS)) (rw' : NdR h₀ s4 (aheadL.map (wantN F.length))) : ∀ (j i : Nat) (h : H), i ≤ 5 → 5 - i < j → Ext h₀ h →
    ∃ h', ∀ (α : Type) (kr : Bool → M α) (kx : M α), w4SyntaxSteps.u13.l k kr kx j text a (F.length : Int) c s4 (i : Int) h = kx h' := by
  obtain ⟨k, rfl⟩ : ∃ q, k = q + 1 := ⟨k - 1, by omega⟩
  have hc5 : c.len = 5 := slen (size := 1) (fun _ => rfl) (by decide) rc
  intro j
  induction j with
  | zero => intro i h hi hj; omega
  | succ j ih =>
    intro i h hi hj e
    by_cases hi5 : i < 5
    rotate_left
    · refine ⟨h, fun α kr kx => ?_⟩
      rw [w4SyntaxSteps.u13.l, w4SyntaxSteps.u12.f, w4SyntaxSteps.u3.f, hc5, dF (by omega : ¬ (i : Int) < ((5 : Nat) : Int)), cond_false]
    obtain ⟨x, hx⟩ : ∃ x, aheadL[i]? = some x := ⟨_, List.getElem?_eq_getElem (by simpa [aheadL] using hi5)⟩
    have hmem := List.mem_of_getElem? hx
    have hxl : x.1.length ≤ 20 := by
      simp only [aheadL, List.mem_cons, List.not_mem_nil, or_false] at hmem
      rcases hmem with rfl | rfl | rfl | rfl | rfl <;> decide
    have hp : parseF (x.1 ++ 40 :: (text ++ 10 :: [41])) = .ok (F.map (Nd.mv 0 ((x.1.length : Int) + 1)) ++ [wantN F.length x]) := step_all p (by omega) hlt x hmem
    have h1 : (aheadL.map fun x => x.1)[i]? = some x.1 := by rw [List.getElem?_map, hx]; rfl
    have h2 : (aheadL.map (wantN F.length))[i]? = some (wantN F.length x) := by rw [List.getElem?_map, hx]; rfl
    obtain ⟨g1, s1, e1, x1, p1, _⟩ := parse_good k (by omega) hp h
    have lL := nd_slen p1.rd
    have hln : (F.map (Nd.mv 0 ((x.1.length : Int) + 1)) ++ [wantN F.length x]).length = F.length + 1 := by simp
    have hlast : (F.map (Nd.mv 0 ((x.1.length : Int) + 1)) ++ [wantN F.length x])[F.length]? = some (wantN F.length x) := by
      rw [List.getElem?_append_right (by rw [List.length_map]; omega), List.length_map, Nat.sub_self]; rfl
    have hm : ∀ (i : Nat) (n : Nd), F[i]? = some n → (F.map (Nd.mv 0 ((x.1.length : Int) + 1)) ++ [wantN F.length x])[i]? = some (n.mv 0 ((x.1.length : Int) + 1)) := by
      intro i n hi
      have := get_lt hi
      rw [List.getElem?_append_left (by rw [List.length_map]; exact this), List.getElem?_map, hi]; rfl
    generalize F.map (Nd.mv 0 ((x.1.length : Int) + 1)) ++ [wantN F.length x] = L at hp p1 lL hln hlast hm
    have e1' := e.trans x1
    obtain ⟨g2, x2, e2⟩ := steps_inner (k + 1) (r.ext e1') p1.rd (rc.ext e1') h1 hxl hm (fun i n hi => ⟨(p.nd hi).1, (p.nd hi).2.1⟩) (by omega) text s4 (k + 1) 0 g1 (Nat.zero_le _) (by omega) (Ext.refl _)
    obtain ⟨h', g⟩ := ih (i + 1) g2 (by omega) (by omega) (e1'.trans x2)
    refine ⟨h', fun α kr kx => ?_⟩
    have hcat : ∀ (α : Type) (u v : List UInt8) (K : List UInt8 → M α) (h : H), u.length + v.length ≤ 100000 → cat u v K h = K (u ++ v) h := fun α u v K h hl => cat_run (by omega)
    rw [w4SyntaxSteps.u13.l, w4SyntaxSteps.u12.f, w4SyntaxSteps.u3.f, hc5, dT (by omega : (i : Int) < ((5 : Nat) : Int)), cond_true, w4SyntaxSteps.u11.f, w4SyntaxSteps.u9.f, w4SyntaxSteps.u8.f, w4SyntaxSteps.u4.f, str_rd (rc.ext e) rfl h1, hcat _ _ _ _ _ (by simp; omega), hcat _ _ _ _ _ (by simp; omega), hcat _ _ _ _ _ (by simp; omega)]
    rw [show x.1 ++ [40] ++ text ++ [10, 41] = x.1 ++ 40 :: (text ++ 10 :: [41]) by simp, e1, asNil_nil, Bool.not_true, cond_false, lL, hln, w64_eq (by omega) (by omega), dT (by omega), Bool.not_true, cond_false, nd_rd p1.rd rfl hlast, nd_rd (rw'.ext e1') rfl h2, eq_nd, dT rfl, Bool.not_true, cond_false, w4SyntaxSteps.u7.f, w4SyntaxSteps.u6.f]
    refine (e2 α _ _).trans ?_
    rw [w4SyntaxSteps.u10.f, w64_eq (by omega) (by omega)]
    exact g α kr kx
end
theorem SyntaxSteps_run {h : H} (a0 : List UInt8) : ∃ k h', ∀ (α : Type) (ret : Bool → M α), w4SyntaxSteps.f (k + 1) a0 ret h = ret true h' := by
  obtain ⟨k, hk⟩ : ∃ k, 5000000 ≤ k := ⟨5000000, Nat.le_refl _⟩
  obtain ⟨k, rfl⟩ : ∃ q, k = q + 1 := ⟨k - 1, by omega⟩
  refine ⟨k + 1, ?_⟩
  obtain ⟨h1, e1, x1⟩ := shown4_run k (by omega) h
  have la : (a0.take (min a0.length 20000)).length ≤ 20000 := by simp; omega
  have st : ∀ (α : Type) (ret : Bool → M α), w4SyntaxSteps.f (k + 1 + 1) a0 ret h = syntax_Parse.f (k + 1) (a0.take (min a0.length 20000)) (fun r5 r6 =>
      asNil r6 fun b7 => cond (!b7) (ret true) (cond (decide (60 ≤ (r5.len : Int))) (ret true) (cond (decide (262124 < ((a0.take (min a0.length 20000)).length : Int))) (ret true) (
          new [.str [60, 97, 62], .str [91, 103, 111, 93], .str [60, 45, 62], .str [109, 117, 32, 88, 49, 46], .str [110, 117, 32, 65, 98, 99, 95, 57, 120, 121, 90, 32, 46, 32]] fun r8 =>
          new [.int .i64 8, .int .i64 (w64 ((r5.len : Int) - 1)), .int .i64 0, .str [97], .int .i64 0, .int .i64 9, .int .i64 (w64 ((r5.len : Int) - 1)), .int .i64 0, .str [103, 111], .int .i64 0, .int .i64 8, .int .i64 (w64 ((r5.len : Int) - 1)), .int .i64 0, .str [45], .int .i64 0, .int .i64 10, .int .i64 (w64 ((r5.len : Int) - 1)), .int .i64 0, .str [88, 49], .int .i64 0, .int .i64 11, .int .i64 (w64 ((r5.len : Int) - 1)), .int .i64 0, .str [65, 98, 99, 95, 57, 120, 121, 90], .int .i64 0] fun r9 =>
          w4SyntaxSteps.u17.f (k + 1) (a0.take (min a0.length 20000)) r5 (r5.len : Int) (⟨some r8, 5, 5, none⟩ : Sl) (⟨some r9, 5, 5, none⟩ : Sl) ret)))) h1 := by
    intro α ret
    rw [w4SyntaxSteps.f, w4SyntaxSteps.u18.f, w4SyntaxSteps.u1.f, e1, cut20]
    rfl
  generalize a0.take (min a0.length 20000) = a at st la
  rcases parseF_or a with ⟨F, ta, t, pa, pa'⟩ | ⟨e, pa⟩
  rotate_left
  · obtain ⟨h2, q2, e2, x2, _⟩ := parse_fails k (by omega) pa h1
    refine ⟨h2, fun α ret => ?_⟩
    rw [st, e2, asNil_iface, Bool.not_false, cond_true]
  obtain ⟨h2, s2, e2, x2, p2, o2⟩ := parse_good k (by omega) pa h1
  have hF := pa'.flen
  have hFs := pa'.size
  have ht := Tr.pos t
  have lF := nd_slen p2.rd
  by_cases hge : 60 ≤ F.length
  · refine ⟨h2, fun α ret => ?_⟩
    rw [st, e2, asNil_nil, Bool.not_true, cond_false, lF, dT (by omega), cond_true]
  have x3 : Ext h2 (h2.push (.cells ((aheadL.map fun x => x.1).flatMap cS) true)) := (Ext.refl h2).push _
  have rc : Rd (h2.push (.cells ((aheadL.map fun x => x.1).flatMap cS) true)) ⟨some ⟨h2.next, 0⟩, 5, 5, none⟩ 1 ((aheadL.map fun x => x.1).flatMap cS) := Rd.pushed h2 rfl
  have x4 : Ext (h2.push (.cells ((aheadL.map fun x => x.1).flatMap cS) true)) ((h2.push (.cells ((aheadL.map fun x => x.1).flatMap cS) true)).push (.cells (cN (aheadL.map (wantN F.length))) true)) := (Ext.refl _).push _
  have rn : Rd ((h2.push (.cells ((aheadL.map fun x => x.1).flatMap cS) true)).push (.cells (cN (aheadL.map (wantN F.length))) true)) ⟨some ⟨h2.next + 1, 0⟩, 5, 5, none⟩ 5 (cN (aheadL.map (wantN F.length))) := Rd.pushed _ rfl
  obtain ⟨h5, e5⟩ := steps_loop (k + 1) (by omega) pa' la (by omega) (p2.rd.ext (x3.trans x4)) (rc.ext x4) rn (k + 1) 0 _ (by omega) (by omega) (Ext.refl _)
  refine ⟨h5, fun α ret => ?_⟩
  rw [st, e2, asNil_nil, Bool.not_true, cond_false, lF, dF (by omega), cond_false, dF (by omega), cond_false, w64_eq (by omega) (by omega), new_run rfl, new_run rfl, w4SyntaxSteps.u17.f, w4SyntaxSteps.u15.f, w4SyntaxSteps.u2.f, w4SyntaxSteps.u14.f, w4SyntaxSteps.u13.f]
  exact (e5 α ret _).trans (by rw [w4SyntaxSteps.u16.f])
theorem SyntaxSteps_law (a : List UInt8) (ha : a.length ≤ reachBytes) : ∃ k h', ∀ (α : Type) (ret : Bool → M α), w4SyntaxSteps.f (k + 1) a ret h0 = ret true h' := SyntaxSteps_run a
end Go.Ab.S3
