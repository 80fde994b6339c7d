import Derived.Test.YtkfoohgkbafafaaS3tk
import Derived.Test.YtkfoohgkbafafaaS3a
import Derived.Test.YtkfoohgkbafafaaAb20
import Derived.Test.YtkfoohgkbafafaaS3s
namespace Go.Ab.S3
set_option linter.unusedVariables false
set_option linter.unusedSimpArgs false
def endT (text : List UInt8) : Tok := ⟨0, (text.length : Nat), [], 0⟩
def words (ts : List Tok) : List Tok := ts.filter fun t => !lineT t
theorem words_append (a b : List Tok) : words (a ++ b) = words a ++ words b := List.filter_append _ _
theorem words_shift (d : Int) : ∀ ts : List Tok, words (ts.map (Tok.shift d)) = (words ts).map (Tok.shift d)
  | [] => rfl
  | t :: ts => by
    unfold words
    rw [List.map_cons, List.filter_cons, List.filter_cons]
    have := words_shift d ts
    unfold words at this
    rw [this]
    have e : lineT (t.shift d) = lineT t := rfl
    rw [e]
    cases lineT t <;> rfl
structure Psd (text : List UInt8) (F : List Nd) (ts : List Tok) (t : Tr) : Prop where
  len : text.length ≤ 262144
  sc : Sc text 0 ts text.length
  ok : t.ok = true
  pos : t.at fun p => 0 ≤ p ∧ p ≤ text.length
  flat : F = t.flat 0
  size : t.size ≤ 60
  ends : Ends (words ts ++ [endT text])
  read : ∃ s', Ok (.row true) 0 ⟨words ts ++ [endT text], 0, []⟩ (((t.size - 1 : Nat) : Int), s') ∧ s'.hd.kind = 0 ∧ s'.f = F ∧ s'.made = F.length
theorem parsed {text : List UInt8} {F : List Nd} (h : parseF text = .ok F) : ∃ ts t, Psd text F ts t := by
  rcases scanF_cases text with ⟨_, hs⟩ | ⟨hl, ts, sc, hs⟩ | ⟨_, _, _, _, _, _, hs⟩
  · unfold parseF at h; rw [hs] at h; cases h
  · unfold parseF at h
    have hsok := hs
    rw [hs] at h
    have h : parseE (words (ts ++ [endT text])) = .ok F := h
    have he : Ends (words (ts ++ [endT text])) := ((scan_ends hsok).resolve_right id).1
    rw [words_append] at h he
    have e1 : words [endT text] = [endT text] := rfl
    rw [e1] at h he
    obtain ⟨n, s', h1, h2, h3⟩ := parse_inv h
    obtain ⟨j, hj⟩ := h1.one
    have hb := pz_bal _ _ _ _ _ _ hj
    have hT : ∀ t ∈ words ts ++ [endT text], TokOk (fun p => 0 ≤ p ∧ p ≤ text.length) t := by
      intro t ht
      rcases List.mem_append.1 ht with ht | ht
      · exact sc.toks t (List.mem_filter.1 ht).1
      · rw [List.mem_singleton.1 ht]
        exact ⟨⟨by show (0 : Int) ≤ (text.length : Nat); omega, by show ((text.length : Nat) : Int) ≤ _; omega⟩, fun hk => absurd hk (by show ¬ (0 : Int) = 2; decide), fun hk => absurd hk (by show ¬ (0 : Int) = 3; decide)⟩
    obtain ⟨_, t, t1, t2, t3, t4⟩ := pz_tree _ _ _ _ _ _ hj he hT
    have t3 : s'.f = t.flat 0 := by rw [t3]; rfl
    have hm : s'.made = s'.f.length := by
      have := hb.1
      simp only [List.length_nil] at this
      omega
    have h60 : s'.made ≤ 60 := hb.2.2.1 (Nat.zero_le _)
    have t4 : n = ((t.size - 1 : Nat) : Int) := by rw [t4]; simp
    rw [t4] at h1
    refine ⟨ts, t, hl, sc, t1, t2, by rw [← h3, t3], ?_, he, s', h1, h2, h3, by rw [hm, h3]⟩
    rw [t3, flat_length] at hm
    omega
  · unfold parseF at h; rw [hs] at h; cases h
theorem Psd.flen {text : List UInt8} {F : List Nd} {ts : List Tok} {t : Tr} (p : Psd text F ts t) : F.length = t.size := by rw [p.flat, flat_length]
theorem mvl_snoc (d : Int) (tail : List Tok) (e : Tok) : ∀ us : List Tok, mvl d tail (us ++ [e]) = us.map (Tok.shift d) ++ tail
  | [] => rfl
  | [t] => rfl
  | t :: u :: r => by
    have := mvl_snoc d tail e (u :: r)
    show t.shift d :: mvl d tail (u :: r ++ [e]) = _
    rw [this]
    rfl
theorem Psd.moved {text : List UInt8} {F : List Nd} {ts : List Tok} {t : Tr} (p : Psd text F ts t) {tail : List Tok} (hst : Stops tail) (m0 n0 : Nat) (d : Int) {f0 : List Nd} (hf0 : f0.length = n0) (h60 : m0 ≤ 60) :
    (m0 + F.length ≤ 60 ∧ Ok (.row true) 0 ⟨(words ts).map (Tok.shift d) ++ tail, m0, f0⟩ (((t.size - 1 : Nat) : Int) + n0, ⟨tail, F.length + m0, f0 ++ F.map (Nd.mv n0 d)⟩)) ∨
    (60 < m0 + F.length ∧ ∃ q, Fl (.row true) 0 ⟨(words ts).map (Tok.shift d) ++ tail, m0, f0⟩ (q, 10)) := by
  obtain ⟨s', h1, h2, h3, h4⟩ := p.read
  obtain ⟨j, hj⟩ := h1.one
  have hb := pz_bal _ _ _ _ _ _ hj
  have := pz_mv (n0 := n0) (m0 := m0) (d := d) (f0 := f0) (tail := tail) hst hf0 _ _ _ 0 _ _ _ hj p.ends (by show m0 + 0 ≤ 60; omega) (fun o e => by cases e)
  have e1 : mvS n0 m0 d f0 tail ⟨words ts ++ [endT text], 0, []⟩ = ⟨(words ts).map (Tok.shift d) ++ tail, m0, f0⟩ := by
    unfold mvS
    simp only [mvl_snoc, List.map_nil, List.append_nil, Nat.zero_add]
  have e2 : mvS n0 m0 d f0 tail s' = ⟨tail, F.length + m0, f0 ++ F.map (Nd.mv n0 d)⟩ := by
    have := mvS_end (n0 := n0) (m0 := m0) (d := d) (f0 := f0) (tail := tail) (hb.2.2.2.1 p.ends) h2
    unfold mvS at this ⊢
    simp only at this
    rw [this, h3, h4]
  rw [e1] at this
  rcases this with ⟨a1, a2⟩ | ⟨a1, q, a2⟩
  · left
    rw [h4] at a1
    rw [e2] at a2
    exact ⟨a1, .of a2⟩
  · right
    rw [h4] at a1
    exact ⟨a1, q, .of a2 (by show (10 : Int) ≠ 0; decide)⟩
def sgT (p : Int) (c : UInt8) : Tok := ⟨5, p, [c], 0⟩
theorem stops_sg (p : Int) {c : UInt8} (h1 : c ≠ 124) (h2 : c ≠ 38) (r : List Tok) : Stops (sgT p c :: r) := by
  intro o m f
  unfold isS St.hd
  cases o
  · simp [signO, sgT, h2]
  · simp [signO, sgT, h1]
theorem stops_kind {t : Tok} (h : t.kind ≠ 5) (r : List Tok) : Stops (t :: r) := by
  intro o m f
  exact isS_kind_ne (s := ⟨t :: r, m, f⟩) h _
theorem isS_sg (p : Int) (c : UInt8) (r : List Tok) (m : Nat) (f : List Nd) : isS [c] ⟨sgT p c :: r, m, f⟩ = true := by
  simp [isS, St.hd, sgT]
theorem Psd.par {text : List UInt8} {F : List Nd} {ts : List Tok} {t : Tr} (p : Psd text F ts t) (x y : Int) (rest : List Tok) (m0 n0 : Nat) (d : Int) {f0 : List Nd} (hf0 : f0.length = n0) (h60 : m0 ≤ 60) :
    (m0 + F.length ≤ 60 ∧ Ok .un 0 ⟨sgT x 40 :: ((words ts).map (Tok.shift d) ++ sgT y 41 :: rest), m0, f0⟩ (((t.size - 1 : Nat) : Int) + n0, ⟨rest, F.length + m0, f0 ++ F.map (Nd.mv n0 d)⟩)) ∨
    (60 < m0 + F.length ∧ ∃ q, Fl .un 0 ⟨sgT x 40 :: ((words ts).map (Tok.shift d) ++ sgT y 41 :: rest), m0, f0⟩ (q, 10)) := by
  rcases p.moved (stops_sg y (c := 41) (by decide) (by decide) rest) m0 n0 d hf0 h60 with ⟨h1, h2⟩ | ⟨h1, q, h2⟩
  · exact .inl ⟨h1, Ok.par (isS_sg _ _ _ _ _) h2 (isS_sg _ _ _ _ _)⟩
  · exact .inr ⟨h1, q, Fl.par (isS_sg _ _ _ _ _) h2⟩
def Sx (p r : List UInt8) (ts : List Tok) (q r' : List UInt8) : Prop := p ++ r = q ++ r' ∧ Sc (p ++ r) p.length ts q.length
theorem Sx.trans {p r q r' v r'' : List UInt8} {ts us : List Tok} (a : Sx p r ts q r') (b : Sx q r' us v r'') : Sx p r (ts ++ us) v r'' := by
  refine ⟨a.1.trans b.1, a.2.trans ?_⟩
  rw [a.1]
  exact b.2
theorem Sx.sign (p : List UInt8) (c : UInt8) (r : List UInt8) (x : Int) (hx : x = (p.length : Nat)) (hk : kindF c.toNat = 5) (h35 : (c.toNat : Int) ≠ 35) : Sx p (c :: r) [sgT x c] (p ++ [c]) r := by
  subst hx
  refine ⟨by simp, ?_⟩
  have := Sc.sign p c r hk h35
  rw [show (p ++ [c]).length = p.length + 1 by simp]
  exact this
theorem Sx.name (p : List UInt8) (c : UInt8) (w r : List UInt8) (x : Int) (hx : x = (p.length : Nat)) {kd : Int} (hk : kindF c.toNat = kd) (hkd : kd = 2 ∨ kd = 3) (hw : ∀ b ∈ w, innerB b = true) (hl : w.length < 8) (hr : ∀ b s, r = b :: s → innerB b = false) :
    Sx p ((c :: w) ++ r) [⟨kd, x, c :: w, 0⟩] (p ++ (c :: w)) r := by
  subst hx
  refine ⟨by simp, ?_⟩
  have := Sc.name p c w r hk hkd hw hl hr
  rw [show (p ++ (c :: w)).length = p.length + (c :: w).length by simp]
  exact this
theorem Sx.text (p : List UInt8) {a : List UInt8} {ts : List Tok} (s : Sc a 0 ts a.length) (r : List UInt8) (x : Int) (hx : x = (p.length : Nat)) : Sx p (a ++ 10 :: r) (ts.map (Tok.shift x) ++ [⟨1, x + a.length, [10], 0⟩]) (p ++ (a ++ [10])) r := by
  subst hx
  have h1 := ((s.join r).trans (Sc.line a r)).behind p
  refine ⟨by simp, ?_⟩
  simp only [Nat.add_zero, List.map_append, List.map_cons, List.map_nil] at h1
  have e0 : (p ++ (a ++ [10])).length = p.length + (a.length + 1) := by simp
  rw [e0]
  have e : Tok.shift p.length ⟨1, a.length, [10], 0⟩ = ⟨1, p.length + a.length, [10], 0⟩ := by
    unfold Tok.shift
    simp only [Tok.mk.injEq, true_and, and_true]
    omega
  rw [e] at h1
  exact h1
theorem Sx.fin {T q : List UInt8} {ts : List Tok} (s : Sx [] T ts q []) (hl : T.length ≤ 262144) : scanF T = .ok (ts ++ [endT T]) := by
  have e : q = T := by have := s.1; simpa using this.symm
  have h := s.2
  rw [e] at h
  exact Sc.okF (by simpa using h) hl
theorem parse_of {T : List UInt8} {ts : List Tok} (h : scanF T = .ok (ts ++ [endT T])) : parseF T = parseE (words ts ++ [endT T]) ∧ Ends (words ts ++ [endT T]) := by
  have he := ((scan_ends h).resolve_right id).1
  have e : (ts ++ [endT T]).filter (fun t => !lineT t) = words ts ++ [endT T] := by
    rw [← show words (ts ++ [endT T]) = (ts ++ [endT T]).filter (fun t => !lineT t) from rfl, words_append]
    rfl
  rw [e] at he
  refine ⟨?_, he⟩
  unfold parseF
  rw [h]
  show parseE ((ts ++ [endT T]).filter _) = _
  rw [e]
def pairX (a b : List UInt8) (c : UInt8) : List UInt8 := 40 :: (a ++ 10 :: (41 :: c :: 40 :: (b ++ 10 :: (41 :: []))))
theorem pair_parse {a b : List UInt8} {F G : List Nd} {ta tb : List Tok} {t u : Tr} (pa : Psd a F ta t) (pb : Psd b G tb u) (o : Bool) {c : UInt8} (hc : [c] = signO o) (hl : a.length + b.length ≤ 262134) :
    (F.length + G.length < 60 → parseF (pairX a b c) = .ok (F.map (Nd.mv 0 1) ++ (G.map (Nd.mv F.length (a.length + 5)) ++ [⟨kindO o, (F.length : Int) - 1, (F.length : Int) + G.length - 1, [], (a.length : Int) + 3⟩]))) ∧
    (60 ≤ F.length + G.length → ∃ q, parseF (pairX a b c) = .error (q, 10)) := by
  have hc5 : kindF c.toNat = 5 ∧ (c.toNat : Int) ≠ 35 := by
    cases o
    · have : c = 38 := by simpa [signO] using hc
      rw [this]; decide
    · have : c = 124 := by simpa [signO] using hc
      rw [this]; decide
  have sx := (((((((Sx.sign [] 40 (a ++ 10 :: (41 :: c :: 40 :: (b ++ 10 :: (41 :: [])))) 0 rfl (by decide) (by decide)).trans (Sx.text _ pa.sc _ 1 (by simp))).trans (Sx.sign _ 41 _ ((1 + (a.length + 1) : Nat) : Int) (by simp; omega) (by decide) (by decide))).trans (Sx.sign _ c _ ((a.length : Int) + 3) (by simp; omega) hc5.1 hc5.2)).trans (Sx.sign _ 40 _ ((1 + (a.length + 1) + 1 + 1 : Nat) : Int) (by simp; omega) (by decide) (by decide))).trans (Sx.text _ pb.sc _ ((a.length : Int) + 5) (by simp; omega))).trans (Sx.sign _ 41 _ ((1 + (a.length + 1) + 1 + 1 + 1 + (b.length + 1) : Nat) : Int) (by simp; omega) (by decide) (by decide)))
  have hlT : (pairX a b c).length ≤ 262144 := by simp [pairX]; omega
  have hs := Sx.fin (T := pairX a b c) sx hlT
  obtain ⟨h1, he⟩ := parse_of hs
  rw [h1]
  have ew : ∀ (p : Int) (x : UInt8), words [sgT p x] = [sgT p x] := fun p x => rfl
  have el : ∀ (p : Int), words [⟨1, p, [10], 0⟩] = [] := fun p => rfl
  simp only [words_append, words_shift, ew, el] at he ⊢
  simp only [List.append_nil, List.nil_append, List.append_assoc, List.cons_append] at he ⊢
  have hF := pa.flen
  have hG := pb.flen
  have ht := Tr.pos t
  have hu := Tr.pos u
  have hsa := pa.size
  have hsb := pb.size
  generalize hL : sgT ((1 + (a.length + 1) + 1 + 1 : Nat) : Int) 40 :: ((words tb).map (Tok.shift ((a.length : Int) + 5)) ++ sgT ((1 + (a.length + 1) + 1 + 1 + 1 + (b.length + 1) : Nat) : Int) 41 :: [endT (pairX a b c)]) = L2 at he ⊢
  rcases pa.par 0 ((1 + (a.length + 1) : Nat) : Int) (sgT ((a.length : Int) + 3) c :: L2) 0 0 1 (f0 := []) rfl (by decide) with ⟨a1, a2⟩ | ⟨a1, q, a2⟩
  rotate_left
  · omega
  simp only [Nat.add_zero, List.nil_append, Int.natCast_zero, Int.add_zero] at a2
  have hsg : isS (signO o) ⟨sgT ((a.length : Int) + 3) c :: L2, F.length, F.map (Nd.mv 0 1)⟩ = true := by rw [← hc]; exact isS_sg _ _ _ _ _
  have hsg' : isS (signO (!o)) ⟨sgT ((a.length : Int) + 3) c :: L2, F.length, F.map (Nd.mv 0 1)⟩ = false := isS_ne hsg (by cases o <;> decide)
  have hstop : Stops [endT (pairX a b c)] := stops_kind (by show (0 : Int) ≠ 5; decide) []
  -- the loop behind the first
  have go : ∀ {z : Int × St}, Ok (.loop o) ((t.size - 1 : Nat) : Int) ⟨sgT ((a.length : Int) + 3) c :: L2, F.length, F.map (Nd.mv 0 1)⟩ z → isS [124] z.2 = false →
      Ok (.row true) 0 ⟨sgT 0 40 :: ((words ta).map (Tok.shift 1) ++ sgT ((1 + (a.length + 1) : Nat) : Int) 41 :: sgT ((a.length : Int) + 3) c :: L2), 0, []⟩ z := by
    intro z hz hz2
    cases o with
    | true => exact Ok.row (o := true) (Ok.row (o := false) a2 (.stop hsg')) hz
    | false => exact Ok.row (o := true) (y := z) (Ok.row (o := false) a2 hz) (.stop hz2)
  have go2 : ∀ {e : Er}, Fl (.loop o) ((t.size - 1 : Nat) : Int) ⟨sgT ((a.length : Int) + 3) c :: L2, F.length, F.map (Nd.mv 0 1)⟩ e →
      Fl (.row true) 0 ⟨sgT 0 40 :: ((words ta).map (Tok.shift 1) ++ sgT ((1 + (a.length + 1) : Nat) : Int) 41 :: sgT ((a.length : Int) + 3) c :: L2), 0, []⟩ e := by
    intro e hz
    cases o with
    | true => exact Fl.row2 (o := true) (Ok.row (o := false) a2 (.stop hsg')) hz
    | false => exact Fl.row1 (o := true) (Fl.row2 (o := false) a2 hz)
  refine ⟨fun hlt => ?_, fun hge => ?_⟩
  · rcases pb.par ((1 + (a.length + 1) + 1 + 1 : Nat) : Int) ((1 + (a.length + 1) + 1 + 1 + 1 + (b.length + 1) : Nat) : Int) [endT (pairX a b c)] (F.length + 1) F.length ((a.length : Int) + 5) (f0 := F.map (Nd.mv 0 1)) (by simp) (by omega) with ⟨b1, b2⟩ | ⟨b1, q, b2⟩
    rotate_left
    · omega
    rw [hL] at b2
    have b3 : Ok (oneO o) 0 ⟨L2, F.length + 1, F.map (Nd.mv 0 1)⟩ (((u.size - 1 : Nat) : Int) + F.length, ⟨[endT (pairX a b c)], G.length + (F.length + 1), F.map (Nd.mv 0 1) ++ G.map (Nd.mv F.length ((a.length : Int) + 5))⟩) := by
      cases o with
      | true => exact Ok.row (o := false) b2 (.stop (hstop false _ _))
      | false => exact b2
    have := go (Ok.go hsg (by show F.length ≠ 60; omega) b3 (.stop (hstop o _ _))) (hstop true _ _)
    rw [parse_ok he this, if_pos (by rfl)]
    simp only [layE, List.append_assoc]
    congr 4
    show Nd.mk _ _ _ _ _ = _
    simp only [Nd.mk.injEq, true_and]
    refine ⟨by omega, by omega, rfl⟩
  · by_cases h60 : F.length = 60
    · have := go2 (Fl.many hsg (by show F.length = 60; omega))
      rw [parse_fl he this]
      exact ⟨_, rfl⟩
    · rcases pb.par ((1 + (a.length + 1) + 1 + 1 : Nat) : Int) ((1 + (a.length + 1) + 1 + 1 + 1 + (b.length + 1) : Nat) : Int) [endT (pairX a b c)] (F.length + 1) F.length ((a.length : Int) + 5) (f0 := F.map (Nd.mv 0 1)) (by simp) (by omega) with ⟨b1, b2⟩ | ⟨b1, q, b2⟩
      · omega
      rw [hL] at b2
      have b3 : Fl (oneO o) 0 ⟨L2, F.length + 1, F.map (Nd.mv 0 1)⟩ (q, 10) := by
        cases o with
        | true => exact Fl.row1 (o := false) b2
        | false => exact b2
      have := go2 (Fl.go hsg (by show F.length ≠ 60; omega) b3)
      rw [parse_fl he this]
      exact ⟨_, rfl⟩
end Go.Ab.S3
namespace Go.Ab.S3
set_option linter.unusedVariables false
set_option linter.unusedSimpArgs false
theorem flat_bd {P : Int → Prop} : ∀ (t : Tr) (base : Nat), t.at P → ∀ n ∈ t.flat base, P n.pos ∧ 0 ≤ n.a ∧ n.a ≤ base + t.size ∧ 0 ≤ n.b ∧ n.b ≤ base + t.size
  | .leaf k s p, base, h, n, hn => by
    rw [List.mem_singleton.1 hn]
    refine ⟨h, Int.le_refl _, ?_, Int.le_refl _, ?_⟩ <;> simp only [Tr.node, Tr.size] <;> omega
  | .un k s p a, base, h, n, hn => by
    have ha := Tr.pos a
    rcases List.mem_append.1 hn with hn | hn
    · have := flat_bd a base h.2 n hn
      simp only [Tr.size]
      refine ⟨this.1, this.2.1, ?_, this.2.2.2.1, ?_⟩ <;> omega
    · rw [List.mem_singleton.1 hn]
      refine ⟨h.1, ?_, ?_, Int.le_refl _, ?_⟩ <;> simp only [Tr.node, Tr.size] <;> omega
  | .bin k s p a b, base, h, n, hn => by
    have ha := Tr.pos a
    have hb := Tr.pos b
    rcases List.mem_append.1 hn with hn | hn
    · have := flat_bd a base h.2.1 n hn
      simp only [Tr.size]
      refine ⟨this.1, this.2.1, ?_, this.2.2.2.1, ?_⟩ <;> omega
    rcases List.mem_append.1 hn with hn | hn
    · have := flat_bd b (base + a.size) h.2.2 n hn
      simp only [Tr.size]
      refine ⟨this.1, this.2.1, ?_, this.2.2.2.1, ?_⟩ <;> omega
    · rw [List.mem_singleton.1 hn]
      refine ⟨h.1, ?_, ?_, ?_, ?_⟩ <;> simp only [Tr.node, Tr.size] <;> omega
theorem Psd.nd {text : List UInt8} {F : List Nd} {ts : List Tok} {t : Tr} (p : Psd text F ts t) {i : Nat} {n : Nd} (hi : F[i]? = some n) : 0 ≤ n.pos ∧ n.pos ≤ 262144 ∧ 0 ≤ n.a ∧ n.a ≤ 60 ∧ 0 ≤ n.b ∧ n.b ≤ 60 := by
  have hm : n ∈ t.flat 0 := by rw [← p.flat]; exact List.mem_of_getElem? hi
  have := flat_bd t 0 p.pos n hm
  have := p.size
  have := p.len
  omega
end Go.Ab.S3
namespace Go.Ab.S3
set_option linter.unusedVariables false
set_option linter.unusedSimpArgs false
variable {α : Type} {h : H}
structure Bd (n0 : Nat) (h : H) (b : Ad) (l : List UInt8) : Prop where
  off : b.off = 0
  lt : b.id < h.next
  new : n0 ≤ b.id
  blk : ∃ p s, h.get b.id = some (.cellsT 64 true [p, .slice s]) ∧ (p = .ptr none ∨ p = .ptr (some b)) ∧
    ((l = [] ∧ s = Sl.nil) ∨ (l ≠ [] ∧ s.len = l.length ∧ s.loose = some 1 ∧ ∃ a, s.ad = some a ∧ a.off = 0 ∧ a.id < h.next ∧ n0 ≤ a.id ∧ a.id ≠ b.id ∧ h.get a.id = some (.cellsT 5 false (toBytes l))))
theorem copyCheck_run {b : Ad} {p v : V} (hg : h.get b.id = some (.cellsT 64 true [p, v])) (ho : b.off = 0) (hp : p = .ptr none ∨ p = .ptr (some b)) :
    ∃ h', (∀ (α : Type) (K : M α), copyCheckF 64 b K h = K h') ∧ h'.get b.id = some (.cellsT 64 true [.ptr (some b), v]) ∧ (∀ i, i ≠ b.id → h'.get i = h.get i) ∧ h'.next = h.next := by
  rcases hp with rfl | rfl
  · refine ⟨h.put b.id (some (.cellsT 64 true [.ptr (some b), v])), fun α K => ?_, put_get h _ _, fun i hi => put_ne h _ hi, rfl⟩
    unfold copyCheckF
    rw [hg]
    simp [ho]
  · refine ⟨h, fun α K => ?_, hg, fun _ _ => rfl, rfl⟩
    unfold copyCheckF
    rw [hg]
    simp [ho]
theorem ldS_typed {b : Ad} {p : V} {s : Sl} (hg : h.get b.id = some (.cellsT 64 true [p, .slice s])) (ho : b.off = 0) (K : Sl → M α) : ldS ((b.add 1).add 0) K h = K s h := by
  unfold ldS ld
  have : h.cell ((b.add 1).add 0) = some (.slice s) := by
    unfold H.cell
    simp [Ad.add, hg, ho]
  rw [this]
  rfl
theorem st_typed {b : Ad} {p v : V} {s : Sl} (hg : h.get b.id = some (.cellsT 64 true [p, v])) (ho : b.off = 0) (K : M α) : st1 ((b.add 1).add 0) (.slice s) K h = K (h.put b.id (some (.cellsT 64 true [p, .slice s]))) := by
  unfold st1
  have : h.setCell ((b.add 1).add 0) (.slice s) = some (h.put b.id (some (.cellsT 64 true [p, .slice s]))) := by
    unfold H.setCell
    simp [Ad.add, hg, ho, oneV]
    rfl
  rw [this]
def Plain (h h' : H) : Prop := h.next ≤ h'.next ∧ ∀ i cs o, i < h.next → h.get i = some (.cells cs o) → h'.get i = some (.cells cs o)
theorem Plain.refl (h : H) : Plain h h := ⟨Nat.le_refl _, fun _ _ _ _ g => g⟩
theorem Plain.trans {a b c : H} (x : Plain a b) (y : Plain b c) : Plain a c := ⟨Nat.le_trans x.1 y.1, fun i cs o hi g => y.2 i cs o (Nat.lt_of_lt_of_le hi x.1) (x.2 i cs o hi g)⟩
theorem Ext.plain {a b : H} (x : Ext a b) : Plain a b := ⟨x.1, fun i cs o hi g => by rw [x.2 i hi]; exact g⟩
theorem ws_run (k : Nat) {n0 : Nat} {b : Ad} {l : List UInt8} (B : Bd n0 h b l) (x : List UInt8) (hx : l.length + x.length ≤ 1000000000) :
    ∃ h', (∀ (α : Type) (ret : Int → V → M α), strings_Builder_WriteString.f (k + 2) b x ret h = ret (x.length : Int) .nilIface h') ∧ Bd n0 h' b (l ++ x) ∧ (∀ i, i < n0 → h'.get i = h.get i) ∧ Plain h h' := by
  obtain ⟨p, s, hg, hp, hl⟩ := B.blk
  obtain ⟨h1, e1, g1, o1, n1⟩ := copyCheck_run hg B.off hp
  have start : ∀ (α : Type) (ret : Int → V → M α), strings_Builder_WriteString.f (k + 2) b x ret h = appStrT 5 s x (fun x5 => st1 ((b.add 1).add 0) (.slice x5) <| ret (x.length : Int) .nilIface) h1 := by
    intro α ret
    rewrite [strings_Builder_WriteString.f, strings_Builder_WriteString.u1.f, builder_copyCheck.f, e1]
    exact ldS_typed g1 B.off _
  by_cases h0 : x = []
  · subst h0
    refine ⟨h1.put b.id (some (.cellsT 64 true [.ptr (some b), .slice s])), fun α ret => (start α ret).trans ?_, ⟨B.off, by show b.id < h1.next; rw [n1]; exact B.lt, B.new, .ptr (some b), s, put_get _ _ _, .inr rfl, ?_⟩, fun i hi => ?_, by show h.next ≤ h1.next; rw [n1]; exact Nat.le_refl _, fun i cs o hi g => ?_⟩
    · unfold appStrT
      exact st_typed g1 B.off _
    · rw [List.append_nil]
      refine hl.imp id fun ⟨q1, q2, q3, a, q4, q5, q6, q7, q8, q9⟩ => ⟨q1, q2, q3, a, q4, q5, by show a.id < h1.next; rw [n1]; exact q6, q7, q8, by rw [put_ne _ _ q8, o1 _ q8]; exact q9⟩
    · have : i ≠ b.id := by have := B.new; omega
      rw [put_ne _ _ this, o1 _ this]
    · have : i ≠ b.id := by rintro rfl; rw [hg] at g; cases g
      rw [put_ne _ _ this, o1 _ this]; exact g
  · have hxl : Nat.beq x.length 0 = false := beq_ne (by cases x <;> simp_all)
    have hb : Nat.ble (s.len + x.length + (s.len + x.length) / 4 + 512) 281474976710656 = true := by
      apply Nat.ble_eq_true_of_le
      rcases hl with ⟨_, rfl⟩ | ⟨_, q2, _⟩
      · show 0 + x.length + (0 + x.length) / 4 + 512 ≤ _; omega
      · omega
    -- the bytes' new block
    have fin : ∀ (h2 : H) (s' : Sl), (∀ (α : Type) (K : Sl → M α), appStrT 5 s x K h1 = K s' h2) → h2.next = h1.next + 1 → h2.get b.id = h1.get b.id → (∀ i, i < n0 → h2.get i = h1.get i) → s' = ⟨some ⟨h1.next, 0⟩, (l ++ x).length, (l ++ x).length, some 1⟩ → h2.get h1.next = some (.cellsT 5 false (toBytes (l ++ x))) → (∀ i cs o, i < h1.next → h1.get i = some (.cells cs o) → h2.get i = some (.cells cs o)) →
        ∃ h', (∀ (α : Type) (ret : Int → V → M α), strings_Builder_WriteString.f (k + 2) b x ret h = ret (x.length : Int) .nilIface h') ∧ Bd n0 h' b (l ++ x) ∧ (∀ i, i < n0 → h'.get i = h.get i) ∧ Plain h h' := by
      intro h2 s' ea en eb ei es eg ep
      have hbl := B.lt
      have hbn := B.new
      refine ⟨h2.put b.id (some (.cellsT 64 true [.ptr (some b), .slice s'])), fun α ret => (start α ret).trans ?_, ⟨B.off, by show b.id < h2.next; omega, B.new, .ptr (some b), s', put_get _ _ _, .inr rfl, .inr ⟨?_, by rw [es], by rw [es], ⟨h1.next, 0⟩, by rw [es], rfl, by show h1.next < h2.next; omega, by show n0 ≤ h1.next; omega, by show h1.next ≠ b.id; omega, ?_⟩⟩, fun i hi => ?_, by show h.next ≤ h2.next; omega, fun i cs o hi g => ?_⟩
      · rw [ea]
        exact st_typed (eb.trans g1) B.off _
      · intro hh
        exact h0 (List.append_eq_nil_iff.1 hh).2
      · show (h2.put b.id _).get h1.next = _
        rw [put_ne _ _ (by omega)]
        exact eg
      · have : i ≠ b.id := by omega
        rw [put_ne _ _ this, ei i hi, o1 _ this]
      · have : i ≠ b.id := by rintro rfl; rw [hg] at g; cases g
        rw [put_ne _ _ this]
        exact ep i cs o (by omega) (by rw [o1 _ this]; exact g)
    have hbl := B.lt
    rcases hl with ⟨rfl, rfl⟩ | ⟨q1, q2, q3, a, q4, q5, q6, q7, q8, q9⟩
    · refine fin (h1.push (.cellsT 5 false (toBytes x))) _ (fun α K => ?_) rfl (by rw [push_get, if_neg (by omega)]) (fun i hi => by have := B.new; rw [push_get, if_neg (by omega)]) rfl (by rw [push_get, if_pos rfl]; rfl) (fun i cs o hi g => by rw [push_get, if_neg (by omega)]; exact g)
      unfold appStrT
      rw [hxl, hb]
      simp only [cond_false, cond_true, Sl.nil, Nat.zero_add, List.nil_append]
    · have g2 : h1.get a.id = some (.cellsT 5 false (toBytes l)) := by rw [o1 _ q8]; exact q9
      refine fin ((h1.put a.id none).push (.cellsT 5 false (toBytes l ++ toBytes x))) _ (fun α K => ?_) rfl ?_ (fun i hi => ?_) rfl ?_ (fun i cs o hi g => ?_)
      · unfold appStrT
        rw [hxl, hb, q4]
        simp only [cond_false, cond_true]
        rw [g2]
        simp [q5, q2, q3, toBytes]
      · rw [push_get, if_neg (by show b.id ≠ h1.next; omega), put_ne _ _ (Ne.symm q8)]
      · rw [push_get, if_neg (by show i ≠ h1.next; omega), put_ne _ _ (by omega)]
      · rw [push_get, if_pos (show h1.next = (h1.put a.id none).next from rfl)]
        simp [toBytes]
      · have : i ≠ a.id := by rintro rfl; rw [g2] at g; cases g
        rw [push_get, if_neg (by show i ≠ h1.next; omega), put_ne _ _ this]; exact g
theorem bs_run (k : Nat) {n0 : Nat} {b : Ad} {l : List UInt8} (B : Bd n0 h b l) (hl : l.length ≤ 1000000000) :
    ∃ h', (∀ (α : Type) (ret : List UInt8 → M α), builder_String.f (k + 1) b ret h = ret l h') ∧ (∀ i, i < n0 → h'.get i = h.get i) ∧ h.next ≤ h'.next := by
  obtain ⟨p, s, hg, hp, hs⟩ := B.blk
  rcases hs with ⟨rfl, rfl⟩ | ⟨q1, q2, q3, a, q4, q5, q6, q7, q8, q9⟩
  · refine ⟨h, fun α ret => ?_, fun _ _ => rfl, Nat.le_refl _⟩
    rw [builder_String.f]
    unfold stringF
    rw [hg]
    simp [B.off, Sl.nil]
  · refine ⟨h.put a.id none, fun α ret => ?_, fun i hi => put_ne h _ (by omega), Nat.le_refl _⟩
    have hpos : 0 < l.length := List.length_pos_iff.2 q1
    rw [builder_String.f]
    unfold stringF
    rw [hg]
    dsimp only
    rw [B.off, q4]
    dsimp only
    rw [q9]
    dsimp only
    rw [q5, q2, show (toBytes l).length = l.length by simp [toBytes], show Nat.blt 0 l.length = true from Nat.ble_eq_true_of_le hpos, Nat.ble_eq_true_of_le (by omega : l.length ≤ 281474976710656), bytesT_to]
    simp
end Go.Ab.S3
namespace Go.Ab.S3
set_option linter.unusedVariables false
set_option linter.unusedSimpArgs false
variable {α : Type} {h : H}
def Tr.kind : Tr → Int
  | .leaf k _ _ => k
  | .un k _ _ _ => k
  | .bin k _ _ _ _ => k
def brk (over k : Int) (first : Bool) : Bool :=
  cond (fixK over) false (cond (fixK k) true (cond (decide (k = 7)) (!decide (over = 7) || !first) (cond (decide (k = 6)) (!decide (over = 7) && (!decide (over = 6) || !first)) false)))
def headP (k : Int) (s : List UInt8) : List UInt8 :=
  if k = 1 then [116, 116] else if k = 2 then [102, 102] else if k = 5 then [126] else if k = 8 then [60] ++ s ++ [62] else if k = 9 then [91] ++ s ++ [93] else if k = 10 then [109, 117, 32] ++ s ++ [46, 32] else if k = 11 then [110, 117, 32] ++ s ++ [46, 32] else s
def paren (b : Bool) (l : List UInt8) : List UInt8 := if b = true then [40] ++ l ++ [41] else l
def prT : Tr → List UInt8
  | .leaf k s _ => headP k s
  | .un k s _ a => headP k s ++ paren (brk k a.kind true) (prT a)
  | .bin k s _ a b => paren (brk k a.kind true) (prT a) ++ ((if k = 7 then [32, 124, 32] else [32, 38, 32]) ++ paren (brk k b.kind false) (prT b))
theorem sfix_run (k : Nat) (x : Int) (ret : Bool → M α) : syntax_fix.f (k + 1) x ret h = ret (fixK x) h := by
  rw [syntax_fix.f]
  unfold syntax_fix.u1.f fixK
  cases decide (x = 10) <;> rfl
theorem operand_run (k : Nat) {b : Ad} {f : Sl} {l : List Nd} {h₀ : H} (r : NdR h₀ f l) {i : Nat} {n : Nd} (hn : l[i]? = some n) {w : List UInt8} {N : Nat} (hN : w.length ≤ N)
    (W : ∀ (h : H) (acc : List UInt8), Ext h₀ h → Bd h₀.next h b acc → acc.length + N ≤ 900000000 → ∃ h', (∀ (α : Type) (K : M α), syntax_write.f (k + 2) b f (i : Int) K h = K h') ∧ Ext h₀ h' ∧ Bd h₀.next h' b (acc ++ w) ∧ Plain h h')
    (over : Int) (first : Bool) (h : H) (acc : List UInt8) (x : Ext h₀ h) (B : Bd h₀.next h b acc) (hl : acc.length + N + 2 ≤ 900000000) :
    ∃ h', (∀ (α : Type) (K : M α), syntax_operand.f (k + 3) b f (i : Int) over first K h = K h') ∧ Ext h₀ h' ∧ Bd h₀.next h' b (acc ++ paren (brk over n.kind first) w) ∧ Plain h h' := by
  have ext : ∀ {h1 h2 : H}, Ext h₀ h1 → (∀ q, q < h₀.next → h2.get q = h1.get q) → h1.next ≤ h2.next → Ext h₀ h2 := fun y hg hn => ⟨Nat.le_trans y.1 hn, fun q hq => by rw [hg q hq]; exact y.2 q hq⟩
  cases hb : brk over n.kind first with
  | false =>
    obtain ⟨h', e, x', B', p'⟩ := W h acc x B (by omega)
    refine ⟨h', fun α K => ?_, x', by simpa [paren] using B', p'⟩
    have fx : ∀ (K : Bool → M α), syntax_fix.f (k + 2) n.kind K = K (fixK n.kind) := fun K => funext fun _ => sfix_run _ _ _
    rw [syntax_operand.f, syntax_operand.u1.f, nd_kind (r.ext x) rfl hn, sfix_run, fx]
    unfold brk at hb
    revert hb
    cases fixK over <;> cases fixK n.kind <;> cases decide (n.kind = 7) <;> cases decide (over = 7) <;> cases decide (n.kind = 6) <;> cases decide (over = 6) <;> cases first <;> intro hb <;> first | (cases hb; done) | exact e α K
  | true =>
    obtain ⟨h1, e1, B1, g1, n1⟩ := ws_run k B [40] (by simp; omega)
    have x1 := ext x g1 n1.1
    obtain ⟨h2, e2, x2, B2, p2⟩ := W h1 _ x1 B1 (by simp; omega)
    obtain ⟨h3, e3, B3, g3, n3⟩ := ws_run k B2 [41] (by simp; omega)
    have e : ∀ (α : Type) (K : M α), (strings_Builder_WriteString.f (k + 2) b [40] fun _ _ => syntax_write.f (k + 2) b f (i : Int) (strings_Builder_WriteString.f (k + 2) b [41] fun _ _ => K)) h = K h3 := by
      intro α K
      rw [e1, e2, e3]
    refine ⟨h3, fun α K => ?_, ext x2 g3 n3.1, by simpa [paren] using B3, (n1.trans p2).trans n3⟩
    have fx : ∀ (K : Bool → M α), syntax_fix.f (k + 2) n.kind K = K (fixK n.kind) := fun K => funext fun _ => sfix_run _ _ _
    rw [syntax_operand.f, syntax_operand.u1.f, nd_kind (r.ext x) rfl hn, sfix_run, fx]
    unfold brk at hb
    revert hb
    cases fixK over <;> cases fixK n.kind <;> cases decide (n.kind = 7) <;> cases decide (over = 7) <;> cases decide (n.kind = 6) <;> cases decide (over = 6) <;> cases first <;> intro hb <;> first | (cases hb; done) | exact e α K
end Go.Ab.S3
namespace Go.Ab.S3
set_option linter.unusedVariables false
set_option linter.unusedSimpArgs false
variable {α : Type} {h : H}
theorem cat_run {a b : List UInt8} {K : List UInt8 → M α} (hl : a.length + b.length ≤ 4611686018427387904) : cat a b K h = K (a ++ b) h := by
  unfold cat
  rw [need_run (Nat.ble_eq_true_of_le hl)]
theorem spelt_len {lo hi : Int} {s : List UInt8} (h : speltF lo hi s = true) : s.length ≤ 8 := by
  cases s with
  | nil => exact Nat.zero_le _
  | cons c r =>
    simp only [speltF, Bool.and_eq_true, decide_eq_true_eq] at h
    have := h.1.1.1
    simp only [List.length_cons]; omega
theorem named_len {k : Int} {s : List UInt8} (h : namedF k s = true) : s.length ≤ 8 := by
  unfold namedF nameF varF at h
  split at h
  · rw [Bool.and_eq_true] at h; exact spelt_len h.1
  split at h
  · exact spelt_len h
  split at h
  · rw [Bool.or_eq_true] at h
    rcases h with h | h
    · rw [of_decide_eq_true h]; decide
    · rw [Bool.and_eq_true] at h; exact spelt_len h.1
  · rw [of_decide_eq_true h]; decide
theorem headP_len (k : Int) {s : List UInt8} (h : s.length ≤ 8) : (headP k s).length ≤ 13 := by
  unfold headP
  repeat' split
  all_goals (try simp only [List.length_append, List.length_cons, List.length_nil])
  all_goals omega
theorem paren_len (b : Bool) (w : List UInt8) : (paren b w).length ≤ w.length + 2 := by
  cases b <;> simp [paren]
theorem prT_len : ∀ t : Tr, t.ok = true → (prT t).length ≤ 20 * t.size
  | .leaf k s p, h => by
    simp only [Tr.ok, Bool.and_eq_true] at h
    have := headP_len k (named_len h.2)
    simp only [prT, Tr.size]; omega
  | .un k s p a, h => by
    simp only [Tr.ok, Bool.and_eq_true] at h
    have := headP_len k (named_len h.1.2)
    have := paren_len (brk k a.kind true) (prT a)
    have := prT_len a h.2
    simp only [prT, Tr.size, List.length_append]; omega
  | .bin k s p a b, h => by
    simp only [Tr.ok, Bool.and_eq_true] at h
    have := paren_len (brk k a.kind true) (prT a)
    have := paren_len (brk k b.kind false) (prT b)
    have := prT_len a h.1.2
    have := prT_len b h.2
    have : (if k = 7 then [32, 124, 32] else [32, 38, 32] : List UInt8).length = 3 := by split <;> rfl
    simp only [prT, Tr.size, List.length_append]; omega
theorem write_head (k : Nat) {b : Ad} {f : Sl} {l : List Nd} (r : NdR h f l) {i : Nat} {n : Nd} (hn : l[i]? = some n) (hs : n.name.length ≤ 8) (h6 : n.kind ≠ 6) (h7 : n.kind ≠ 7) (K : M α) :
    syntax_write.f (k + 1) b f (i : Int) K h = strings_Builder_WriteString.f k b (headP n.kind n.name) (fun _ _ => syntax_write.u2.f k (fun z0 z1 z2 z3 z4 z5 => syntax_operand.f k z0 z1 z2 z3 z4 z5) b f ⟨h.next, 0⟩ K) (h.push (ndC n)) := by
  rw [syntax_write.f, syntax_write.u3.f, syntax_write.u1.f, nd_rd r rfl hn, nd_copy]
  have hq : (h.push (ndC n)).get h.next = some (ndC n) := by rw [push_get, if_pos rfl]
  rw [own_kind hq]
  unfold headP
  by_cases h1 : n.kind = 1
  · rw [dT h1, cond_true, if_pos h1]
  rw [dF h1, cond_false, if_neg h1]
  by_cases h2 : n.kind = 2
  · rw [dT h2, cond_true, if_pos h2]
  rw [dF h2, cond_false, if_neg h2]
  by_cases h5 : n.kind = 5
  · rw [dT h5, cond_true, if_pos h5]
  rw [dF h5, cond_false, if_neg h5]
  by_cases h8 : n.kind = 8
  · rw [dT h8, cond_true, if_pos h8, own_name hq, cat_run (by simp; omega), cat_run (by simp; omega)]
  rw [dF h8, cond_false, if_neg h8]
  by_cases h9 : n.kind = 9
  · rw [dT h9, cond_true, if_pos h9, own_name hq, cat_run (by simp; omega), cat_run (by simp; omega)]
  rw [dF h9, cond_false, if_neg h9]
  by_cases h10 : n.kind = 10
  · rw [dT h10, cond_true, if_pos h10, own_name hq, cat_run (by simp; omega), cat_run (by simp; omega)]
  rw [dF h10, cond_false, if_neg h10]
  by_cases h11 : n.kind = 11
  · rw [dT h11, cond_true, if_pos h11, own_name hq, cat_run (by simp; omega), cat_run (by simp; omega)]
  rw [dF h11, cond_false, if_neg h11, dF h6, cond_false, dF h7, cond_false, own_name hq]
theorem write_two (k : Nat) {b : Ad} {f : Sl} {l : List Nd} (r : NdR h f l) {i : Nat} {n : Nd} (hn : l[i]? = some n) (hk : n.kind = 6 ∨ n.kind = 7) (K : M α) :
    syntax_write.f (k + 1) b f (i : Int) K h = syntax_operand.f k b f n.a n.kind true (ldI .i64 (((⟨h.next, 0⟩ : Ad).add 0).add 0) fun x => cond (decide (x = 7)) (
        strings_Builder_WriteString.f k b [32, 124, 32] fun _ _ => ldI .i64 (((⟨h.next, 0⟩ : Ad).add 2).add 0) fun x44 => ldI .i64 (((⟨h.next, 0⟩ : Ad).add 0).add 0) fun x45 => syntax_operand.f k b f x44 x45 false K)
        (strings_Builder_WriteString.f k b [32, 38, 32] fun _ _ => ldI .i64 (((⟨h.next, 0⟩ : Ad).add 2).add 0) fun x44 => ldI .i64 (((⟨h.next, 0⟩ : Ad).add 0).add 0) fun x45 => syntax_operand.f k b f x44 x45 false K)) (h.push (ndC n)) := by
  rw [syntax_write.f, syntax_write.u3.f, syntax_write.u1.f, nd_rd r rfl hn, nd_copy]
  have hq : (h.push (ndC n)).get h.next = some (ndC n) := by rw [push_get, if_pos rfl]
  rw [own_kind hq]
  have e1 : n.kind ≠ 1 ∧ n.kind ≠ 2 ∧ n.kind ≠ 5 ∧ n.kind ≠ 8 ∧ n.kind ≠ 9 ∧ n.kind ≠ 10 ∧ n.kind ≠ 11 := by omega
  obtain ⟨a1, a2, a5, a8, a9, a10, a11⟩ := e1
  rw [dF a1, cond_false, dF a2, cond_false, dF a5, cond_false, dF a8, cond_false, dF a9, cond_false, dF a10, cond_false, dF a11, cond_false]
  rcases hk with hk | hk
  · rw [dT hk, cond_true, cond_true, own_a hq, own_kind hq]
  · rw [dF (by omega : ¬ n.kind = 6), cond_false, dT hk, cond_true, own_a hq, own_kind hq]
def WrRun (f : Sl) (l : List Nd) (b : Ad) (h₀ : H) (t : Tr) : Prop :=
  ∀ (base k : Nat), (∀ i n, (t.flat base)[i]? = some n → l[base + i]? = some n) → 2 * t.size + 20 ≤ k → ∀ (h : H) (acc : List UInt8), Ext h₀ h → Bd h₀.next h b acc → acc.length + 20 * t.size ≤ 900000000 →
    ∃ h', (∀ (α : Type) (K : M α), syntax_write.f k b f ((base + t.size - 1 : Nat) : Int) K h = K h') ∧ Ext h₀ h' ∧ Bd h₀.next h' b (acc ++ prT t) ∧ Plain h h'
theorem Bd.ext {n0 : Nat} {h h' : H} {b : Ad} {l : List UInt8} (B : Bd n0 h b l) (x : Ext h h') : Bd n0 h' b l := by
  obtain ⟨p, s, hg, hp, hl⟩ := B.blk
  refine ⟨B.off, Nat.lt_of_lt_of_le B.lt x.1, B.new, p, s, by rw [x.2 _ B.lt]; exact hg, hp, hl.imp id ?_⟩
  rintro ⟨q1, q2, q3, a, q4, q5, q6, q7, q8, q9⟩
  exact ⟨q1, q2, q3, a, q4, q5, Nat.lt_of_lt_of_le q6 x.1, q7, q8, by rw [x.2 _ q6]; exact q9⟩
theorem ext_of {h₀ h1 h2 : H} (y : Ext h₀ h1) (hg : ∀ q, q < h₀.next → h2.get q = h1.get q) (hn : h1.next ≤ h2.next) : Ext h₀ h2 :=
  ⟨Nat.le_trans y.1 hn, fun q hq => by rw [hg q hq]; exact y.2 q hq⟩
end Go.Ab.S3
namespace Go.Ab.S3
set_option linter.unusedVariables false
set_option linter.unusedSimpArgs false
variable {α : Type} {h : H}
section
variable {f : Sl} {l : List Nd} {b : Ad} {h₀ : H}
theorem tr_root (t : Tr) (base : Nat) : (t.flat base)[t.size - 1]? = some (t.node base) := by
  cases t with
  | leaf k s p => rfl
  | un k s p a =>
    simp only [Tr.flat, Tr.size]
    rw [List.getElem?_append_right (by rw [flat_length]; omega), flat_length]
    simp
  | bin k s p a b =>
    simp only [Tr.flat, Tr.size]
    rw [List.getElem?_append_right (by rw [flat_length]; omega), flat_length, List.getElem?_append_right (by rw [flat_length]; omega), flat_length, show a.size + b.size + 1 - 1 - a.size - b.size = 0 by omega]
    rfl
theorem node_kind (t : Tr) (base : Nat) : (t.node base).kind = t.kind := by cases t <;> rfl
theorem root_at {t : Tr} {base : Nat} (hfl : ∀ i n, (t.flat base)[i]? = some n → l[base + i]? = some n) : l[base + t.size - 1]? = some (t.node base) := by
  have := hfl _ _ (tr_root t base)
  have hp := Tr.pos t
  rw [show base + t.size - 1 = base + (t.size - 1) by omega]
  exact this
theorem opd_run (r : NdR h₀ f l) {t : Tr} (ht : t.ok = true) (W : WrRun f l b h₀ t) {base : Nat} (hfl : ∀ i n, (t.flat base)[i]? = some n → l[base + i]? = some n) {k : Nat} (hk : 2 * t.size + 21 ≤ k) (over : Int) (first : Bool) (h : H) (acc : List UInt8) (x : Ext h₀ h) (B : Bd h₀.next h b acc) (hl : acc.length + 20 * t.size + 2 ≤ 900000000) :
    ∃ h', (∀ (α : Type) (K : M α), syntax_operand.f k b f ((base + t.size - 1 : Nat) : Int) over first K h = K h') ∧ Ext h₀ h' ∧ Bd h₀.next h' b (acc ++ paren (brk over t.kind first) (prT t)) ∧ Plain h h' := by
  obtain ⟨k, rfl⟩ : ∃ q, k = q + 3 := ⟨k - 3, by omega⟩
  have := operand_run k r (root_at hfl) (w := prT t) (prT_len t ht) (fun h acc x B hl => W base (k + 2) hfl (by omega) h acc x B hl) over first h acc x B hl
  rw [node_kind] at this
  exact this
theorem ar_67 {kd : Int} (h : arF kd ≠ 2) : kd ≠ 6 ∧ kd ≠ 7 := by
  constructor <;> (rintro rfl; exact h (by decide))
theorem ar_two {kd : Int} (h : arF kd = 2) : kd = 6 ∨ kd = 7 := by
  unfold arF at h
  split at h
  · omega
  split at h
  · omega
  split at h
  · assumption
  · omega
theorem bel_of {kd : Int} {m : Int} (h : arF kd = m) (h0 : 0 ≤ m) : belF kd = m := by
  unfold belF
  rw [if_neg (by omega), h]
theorem head_go (r : NdR h₀ f l) {i : Nat} {n : Nd} (hn : l[i]? = some n) (hok : namedF n.kind n.name = true) (h2 : arF n.kind ≠ 2) (k : Nat) (hk : 20 ≤ k) (h : H) (acc : List UInt8) (x : Ext h₀ h) (B : Bd h₀.next h b acc) (hl : acc.length + (headP n.kind n.name).length ≤ 900000000) :
    ∃ h', (∀ (α : Type) (K : M α), syntax_write.f (k + 1) b f (i : Int) K h = cond (decide (belF n.kind = 1)) (syntax_operand.f k b f n.a n.kind true K) K h') ∧ Ext h₀ h' ∧ Bd h₀.next h' b (acc ++ headP n.kind n.name) ∧ Plain h h' := by
  obtain ⟨k, rfl⟩ : ∃ q, k = q + 2 := ⟨k - 2, by omega⟩
  have hs := named_len hok
  have hx := headP_len n.kind hs
  have x1 : Ext h (h.push (ndC n)) := (Ext.refl h).push _
  have hq : (h.push (ndC n)).get h.next = some (ndC n) := by rw [push_get, if_pos rfl]
  obtain ⟨h2', e2, B2, g2, p2⟩ := ws_run k (B.ext x1) (headP n.kind n.name) (by omega)
  have hlt : h.next < (h.push (ndC n)).next := by rw [push_next]; omega
  have hq2 : h2'.get h.next = some (ndC n) := p2.2 _ _ _ hlt hq
  have x2 : Ext h₀ h2' := ext_of (x.trans x1) g2 p2.1
  have x3 : Ext h2' (h2'.push (ndC n)) := (Ext.refl h2').push _
  have hq3 : (h2'.push (ndC n)).get h.next = some (ndC n) := by rw [x3.2 _ (by have := p2.1; omega)]; exact hq2
  obtain ⟨a6, a7⟩ := ar_67 h2
  refine ⟨h2'.push (ndC n), fun α K => ?_, x2.trans x3, B2.ext x3, ((Ext.plain x1).trans p2).trans (Ext.plain x3)⟩
  rw [write_head (k + 2) (r.ext x) hn hs a6 a7, e2, syntax_write.u2.f, own_all hq2, below_run (k + 1) (by omega)]
  by_cases hb : belF n.kind = 1
  · rw [dT hb, cond_true, cond_true]
    show (ldI .i64 (((⟨h.next, 0⟩ : Ad).add 1).add 0) _) (h2'.push (ndC n)) = _
    rw [own_a hq3, own_kind hq3]
  · rw [dF hb, cond_false, cond_false]
theorem write_run (r : NdR h₀ f l) : ∀ t : Tr, t.ok = true → WrRun f l b h₀ t
  | .leaf kd s p, hok => by
    intro base k hfl hk h acc x B hl
    simp only [Tr.ok, Bool.and_eq_true, decide_eq_true_eq] at hok
    obtain ⟨k, rfl⟩ : ∃ q, k = q + 1 := ⟨k - 1, by omega⟩
    have hi := root_at hfl
    obtain ⟨h', e, x', B', p'⟩ := head_go r hi hok.2 (by show arF kd ≠ 2; rw [hok.1]; decide) k (by simp only [Tr.size] at hk; omega) h acc x B (by have := headP_len kd (named_len hok.2); simp only [Tr.size] at hl; show acc.length + (headP kd s).length ≤ _; omega)
    refine ⟨h', fun α K => ?_, x', B', p'⟩
    rw [e, dF (by rw [show belF ((Tr.leaf kd s p).node base).kind = 0 from bel_of hok.1 (by decide)]; decide), cond_false]
  | .un kd s p a, hok => by
    intro base k hfl hk h acc x B hl
    simp only [Tr.ok, Bool.and_eq_true, decide_eq_true_eq] at hok
    obtain ⟨k, rfl⟩ : ∃ q, k = q + 1 := ⟨k - 1, by omega⟩
    have hi := root_at hfl
    have hsub := flat_sub (l := l) (a := a) (base := base) (rest := [(Tr.un kd s p a).node base]) hfl
    have hh := headP_len kd (named_len hok.1.2)
    simp only [Tr.size] at hk hl
    obtain ⟨h1, e1, x1, B1, p1⟩ := head_go r hi hok.1.2 (by show arF kd ≠ 2; rw [hok.1.1]; decide) k (by omega) h acc x B (by show acc.length + (headP kd s).length ≤ _; omega)
    obtain ⟨h2, e2, x2, B2, p2⟩ := opd_run r hok.2 (write_run r a hok.2) hsub.1 (k := k) (by omega) kd true h1 _ x1 B1 (by show (acc ++ headP kd s).length + _ + 2 ≤ _; rw [List.length_append]; omega)
    refine ⟨h2, fun α K => ?_, x2, ?_, p1.trans p2⟩
    · rw [e1, dT (show belF ((Tr.un kd s p a).node base).kind = 1 from bel_of hok.1.1 (by decide)), cond_true]
      exact e2 α K
    · rw [prT, ← List.append_assoc]; exact B2
  | .bin kd s p a c, hok => by
    intro base k hfl hk h acc x B hl
    simp only [Tr.ok, Bool.and_eq_true, decide_eq_true_eq] at hok
    obtain ⟨k, rfl⟩ : ∃ q, k = q + 3 := ⟨k - 3, by omega⟩
    have hi := root_at hfl
    have hs1 := flat_sub (l := l) (a := a) (base := base) (rest := c.flat (base + a.size) ++ [(Tr.bin kd s p a c).node base]) hfl
    have hs2 := flat_sub (l := l) (a := c) (base := base + a.size) (rest := [(Tr.bin kd s p a c).node base]) hs1.2
    have hk2 := ar_two hok.1.1.1
    simp only [Tr.size] at hk hl
    have hsg : (if kd = 7 then [32, 124, 32] else [32, 38, 32] : List UInt8).length = 3 := by split <;> rfl
    have hla := paren_len (brk kd a.kind true) (prT a)
    have hlb := prT_len a hok.1.2
    have x1 : Ext h (h.push (ndC ((Tr.bin kd s p a c).node base))) := (Ext.refl h).push _
    have hq : (h.push (ndC ((Tr.bin kd s p a c).node base))).get h.next = some (ndC ((Tr.bin kd s p a c).node base)) := by rw [push_get, if_pos rfl]
    have hlt : h.next < (h.push (ndC ((Tr.bin kd s p a c).node base))).next := by rw [push_next]; omega
    obtain ⟨h2, e2, x2, B2, p2⟩ := opd_run r hok.1.2 (write_run r a hok.1.2) hs1.1 (k := k + 2) (by omega) kd true _ _ (x.trans x1) (B.ext x1) (by omega)
    have hq2 := p2.2 _ _ _ hlt hq
    obtain ⟨h3, e3, B3, g3, p3⟩ := ws_run k B2 (if kd = 7 then [32, 124, 32] else [32, 38, 32]) (by rw [List.length_append]; omega)
    have hlt2 : h.next < h2.next := Nat.lt_of_lt_of_le hlt p2.1
    have hq3 := p3.2 _ _ _ hlt2 hq2
    obtain ⟨h4, e4, x4, B4, p4⟩ := opd_run r hok.2 (write_run r c hok.2) hs2.1 (k := k + 2) (by omega) kd false _ _ (ext_of x2 g3 p3.1) B3 (by rw [List.length_append, List.length_append]; omega)
    refine ⟨h4, fun α K => ?_, x4, ?_, (((Ext.plain x1).trans p2).trans p3).trans p4⟩
    · rw [write_two (k + 2) (r.ext x) hi hk2]
      refine (e2 α _).trans ?_
      rw [own_kind hq2]
      by_cases h7 : kd = 7
      · rw [if_pos h7] at e3
        rw [dT (show ((Tr.bin kd s p a c).node base).kind = 7 from h7), cond_true, e3, own_b hq3, own_kind hq3]
        exact e4 α K
      · rw [if_neg h7] at e3
        rw [dF (show ¬ ((Tr.bin kd s p a c).node base).kind = 7 from h7), cond_false, e3, own_b hq3, own_kind hq3]
        exact e4 α K
    · rw [prT, ← List.append_assoc, ← List.append_assoc]; exact B4
end
end Go.Ab.S3
namespace Go.Ab.S3
set_option linter.unusedVariables false
set_option linter.unusedSimpArgs false
variable {α : Type} {h : H}
theorem newT_run {t : Nat} {cs : List V} {K : Ad → M α} (hc : cs.all oneV = true) : newT t cs K h = K ⟨h.next, 0⟩ (h.push (.cellsT t true cs)) := by
  unfold newT; rw [need_run hc]
theorem print_run (k : Nat) (hk : 200 ≤ k) {f : Sl} {t : Tr} (ht : t.ok = true) (hs : t.size ≤ 60) (h : H) (r : NdR h f (t.flat 0)) :
    ∃ h', (∀ (α : Type) (ret : List UInt8 → M α), syntax_Print.f (k + 1) f ret h = ret (prT t) h') ∧ Ext h h' := by
  obtain ⟨k, rfl⟩ : ∃ q, k = q + 1 := ⟨k - 1, by omega⟩
  have hR : rightF (t.flat 0) = true := (right_iff _).2 ⟨t, ht, rfl, hs⟩
  obtain ⟨h1, e1, x1⟩ := right_run k (by omega) h r
  have hpos := Tr.pos t
  have hlen := nd_slen r
  rw [flat_length] at hlen
  have x2 : Ext h1 (h1.push (.cellsT 64 true [.ptr none, .slice Sl.nil])) := (Ext.refl h1).push _
  have B : Bd h1.next (h1.push (.cellsT 64 true [.ptr none, .slice Sl.nil])) ⟨h1.next, 0⟩ [] :=
    ⟨rfl, by show h1.next < h1.next + 1; omega, Nat.le_refl _, .ptr none, Sl.nil, by show (h1.push _).get h1.next = _; rw [push_get, if_pos rfl], .inl rfl, .inl ⟨rfl, rfl⟩⟩
  obtain ⟨h3, e3, x3, B3, _⟩ := write_run (b := ⟨h1.next, 0⟩) (r.ext x1) t ht 0 (k + 1) (fun i n hi => by rw [Nat.zero_add]; exact hi) (by omega) _ [] x2 B (by simp; omega)
  obtain ⟨h4, e4, g4, n4⟩ := bs_run k B3 (by have := prT_len t ht; rw [List.nil_append]; omega)
  refine ⟨h4, fun α ret => ?_, x1.trans (ext_of x3 g4 n4)⟩
  rw [syntax_Print.f, syntax_Print.u1.f, e1, hR, Bool.not_true, cond_false, newT_run rfl, hlen, w64_eq (by omega) (by omega)]
  rw [show ((t.size : Int) - 1) = ((0 + t.size - 1 : Nat) : Int) by omega, e3, e4, List.nil_append]
section
variable {f : Sl} {l : List Nd} {h₀ : H}
end
end Go.Ab.S3
namespace Go.Ab.S3
set_option linter.unusedVariables false
set_option linter.unusedSimpArgs false
theorem Room.le {n : Nat} (h : Room n) : n ≤ 4611686018427387900 := by unfold Room at h; omega
end Go.Ab.S3
namespace Go.Ab.S3
set_option linter.unusedVariables false
set_option linter.unusedSimpArgs false
variable {α : Type} {h : H}
def ty1 : Tr := .bin 7 [] 6 (.bin 6 [] 2 (.leaf 3 [112] 0) (.leaf 3 [113] 4)) (.un 5 [] 8 (.leaf 3 [114] 9))
theorem py1 : parseF [112, 32, 38, 32, 113, 32, 124, 32, 126, 114] = .ok (ty1.flat 0) := by kernel_rfl
theorem shown4_run (k : Nat) (hk : 4000000 ≤ k) (h : H) : ∃ h', (∀ (α : Type) (ret : Bool → M α), w4shown.f (k + 1) ret h = ret true h') ∧ Ext h h' := by
  obtain ⟨k, rfl⟩ : ∃ q, k = q + 1 := ⟨k - 1, by omega⟩
  have a1 := parse_run k (by omega) [112, 32, 38, 32, 113, 32, 124, 32, 126, 114] h
  rw [py1] at a1
  obtain ⟨h1, s1, e1, x1, p1, _⟩ := a1
  obtain ⟨h2, e2, x2⟩ := print_run k (by omega) (t := ty1) (by decide) (by decide) h1 p1.rd
  refine ⟨h2, fun α ret => ?_, x1.trans x2⟩
  have hl : s1.len = 6 := nd_slen p1.rd
  have hn : (ty1.flat 0)[5]? = some ⟨7, 2, 4, [], 6⟩ := by decide
  rw [w4shown.f, w4shown.u1.f, e1, asNil_nil, Bool.not_true, cond_false, hl, dT (by decide : ((6 : Nat) : Int) = 6), Bool.not_true, cond_false, nd_rd p1.rd (x := 5) (i := 5) rfl hn]
  rw [show (decide ((7 : Int) = 7) && (decide ((2 : Int) = 2) && (decide ((4 : Int) = 4) && (decide (([] : List UInt8) = []) && (decide ((6 : Int) = 6) && true))))) = true from rfl, cond_true, e2]
  rw [dT (by decide : prT ty1 = [112, 32, 38, 32, 113, 32, 124, 32, 126, 114])]
end Go.Ab.S3
namespace Go.Ab.S3
set_option linter.unusedVariables false
set_option linter.unusedSimpArgs false
variable {α : Type} {h : H}
theorem parseF_or (text : List UInt8) : (∃ F ts t, parseF text = .ok F ∧ Psd text F ts t) ∨ ∃ e, parseF text = .error e := by
  cases hp : parseF text with
  | ok F =>
    obtain ⟨ts, t, p⟩ := parsed hp
    exact .inl ⟨F, ts, t, rfl, p⟩
  | error e => exact .inr ⟨e, rfl⟩
theorem parse_good (k : Nat) (hk : 3000000 ≤ k) {text : List UInt8} {l : List Nd} (hp : parseF text = .ok l) (h : H) :
    ∃ h' s, (∀ (α : Type) (ret : Sl → V → M α), syntax_Parse.f (k + 1) text ret h = ret s .nilIface h') ∧ Ext h h' ∧ App h' s 5 (cN l) ∧ Owned h s := by
  have := parse_run k hk text h
  rw [hp] at this
  exact this
theorem parse_fails (k : Nat) (hk : 3000000 ≤ k) {text : List UInt8} {e : Er} (hp : parseF text = .error e) (h : H) :
    ∃ h' q, (∀ (α : Type) (ret : Sl → V → M α), syntax_Parse.f (k + 1) text ret h = ret Sl.nil (.iface 75 (.ptr (some ⟨q, 0⟩))) h') ∧ Ext h h' ∧ h.next ≤ q ∧ q < h'.next ∧ h'.get q = some (.cells [.int .i64 e.1, .int .i64 e.2] true) := by
  have := parse_run k hk text h
  rw [hp] at this
  exact this
theorem cut20 (text : List UInt8) (K : List UInt8 → M α) : cutStr text none (some (if 20000 < (text.length : Int) then 20000 else (text.length : Int))) K h = K (text.take (min text.length 20000)) h := by
  have e : (if 20000 < (text.length : Int) then 20000 else (text.length : Int)) = ((min text.length 20000 : Nat) : Int) := by split <;> omega
  rw [e, cutStr_to rfl (by omega)]
theorem eq_nd (a b : Nd) : (decide (a.kind = b.kind) && (decide (a.a = b.a) && (decide (a.b = b.b) && (decide (a.name = b.name) && (decide (a.pos = b.pos) && true))))) = decide (a = b) := nd_eq a b
theorem set_own {h : H} {n : Nd} {j : Nat} {v : V} (n' : Nd) (hj : j < 5) (hv : oneV v = true) (hs : n'.cells = n.cells.set j v) (K : M α) : st1 (((⟨h.next, 0⟩ : Ad).add j).add 0) v K (h.push (ndC n)) = K (h.push (ndC n')) := by
  simp only [add_mk, Nat.zero_add, Nat.add_zero]
  rw [st1_new hv hj]
  show K (h.push (.cells (n.cells.set j v) true)) = _
  rw [← hs]
  rfl
section
variable {a b : Sl} {F L G : List Nd}
theorem pairs_loop1 (k : Nat) {h₀ : H} (r : NdR h₀ a F) (q : NdR h₀ b L) (hm : ∀ (i : Nat) (n : Nd), F[i]? = some n → L[i]? = some (n.mv 0 1)) (hb : ∀ (i : Nat) (n : Nd), F[i]? = some n → 0 ≤ n.pos ∧ n.pos ≤ 262144) (hF : F.length ≤ 60) (x : List UInt8) (s2 : Sl) (kd : Int) : ∀ (j i : Nat) (h : H), i ≤ F.length → F.length - i < j → Ext h₀ h →
    ∃ h', Ext h₀ h' ∧ ∀ (α : Type) (kr : Bool → M α) (kx : List UInt8 → Sl → Int → Sl → Int → M α), w4SyntaxPairs.u5.l k kr kx j x a s2 kd b (F.length : Int) (i : Int) h = kx x s2 kd b (F.length : Int) h' := by
  intro j
  induction j with
  | zero => intro i h hi hj; omega
  | succ j ih =>
    intro i h hi hj e
    by_cases hlt : i < F.length
    rotate_left
    · refine ⟨h, e, fun α kr kx => ?_⟩
      rw [w4SyntaxPairs.u5.l, w4SyntaxPairs.u4.f, dF (by omega : ¬ (i : Int) < (F.length : Int)), cond_false]
    have hn : F[i]? = some F[i] := List.getElem?_eq_getElem hlt
    have hl := hm i _ hn
    have hp := hb i _ hn
    generalize F[i] = n at hn hl hp
    have x1 : Ext h (h.push (ndC { n with pos := n.pos + 1 })) := (Ext.refl h).push _
    obtain ⟨h', e', g⟩ := ih (i + 1) (h.push (ndC { n with pos := n.pos + 1 })) (by omega) (by omega) (e.trans x1)
    refine ⟨h', e', fun α kr kx => ?_⟩
    have hq : (h.push (ndC n)).get h.next = some (ndC n) := by rw [push_get, if_pos rfl]
    have hq2 : (h.push (ndC { n with pos := n.pos + 1 })).get h.next = some (ndC { n with pos := n.pos + 1 }) := by rw [push_get, if_pos rfl]
    rw [w4SyntaxPairs.u5.l, w4SyntaxPairs.u4.f, dT (by omega : (i : Int) < (F.length : Int)), cond_true, nd_rd (r.ext e) rfl hn, nd_copy]
    have p4 : ∀ K : Int → M α, ldI .i64 (((⟨h.next, 0⟩ : Ad).add 4).add 0) K (h.push (ndC n)) = K n.pos (h.push (ndC n)) := fun K => ldI_run (by simp only [add_mk]; rw [cell_of (a := ⟨h.next, 0 + 4 + 0⟩) hq]; rfl)
    rw [p4, w64_eq (by omega) (by omega), set_own { n with pos := n.pos + 1 } (by decide) rfl rfl, nd_rd (q.ext (e.trans x1)) rfl hl, own_all hq2]
    have ev : n.mv 0 1 = { n with pos := n.pos + 1 } := by
      unfold Nd.mv
      simp
    rw [ev, eq_nd, dT rfl, Bool.not_true, cond_false, w64_eq (by omega) (by omega)]
    exact g α kr kx
theorem pairs_loop2 (k : Nat) (hk : 1 ≤ k) {h₀ : H} (r : NdR h₀ a G) (q : NdR h₀ b L) (x : List UInt8) (m : Nat) (hm : ∀ (i : Nat) (n : Nd), G[i]? = some n → L[m + i]? = some (n.mv m ((x.length : Int) + 5))) (hb : ∀ (i : Nat) (n : Nd), G[i]? = some n → 0 ≤ n.pos ∧ n.pos ≤ 262144 ∧ 0 ≤ n.a ∧ n.a ≤ 60 ∧ 0 ≤ n.b ∧ n.b ≤ 60) (hG : G.length ≤ 60) (hx : x.length ≤ 262144) (hm60 : m ≤ 60) (kd : Int) : ∀ (j i : Nat) (h : H), i ≤ G.length → G.length - i < j → Ext h₀ h →
    ∃ h', Ext h₀ h' ∧ ∀ (α : Type) (kr : Bool → M α) (kx : List UInt8 → Sl → Int → Sl → Int → M α), w4SyntaxPairs.u19.l k kr kx j x a kd b (m : Int) (i : Int) h = kx x a kd b (m : Int) h' := by
  obtain ⟨k, rfl⟩ : ∃ q, k = q + 1 := ⟨k - 1, by omega⟩
  intro j
  induction j with
  | zero => intro i h hi hj; omega
  | succ j ih =>
    intro i h hi hj e
    have hlen := nd_slen r
    by_cases hlt : i < G.length
    rotate_left
    · refine ⟨h, e, fun α kr kx => ?_⟩
      rw [w4SyntaxPairs.u19.l, w4SyntaxPairs.u18.f, w4SyntaxPairs.u9.f, hlen, dF (by omega : ¬ (i : Int) < (G.length : Int)), cond_false]
    have hn : G[i]? = some G[i] := List.getElem?_eq_getElem hlt
    have hl := hm i _ hn
    have hp := hb i _ hn
    generalize G[i] = n at hn hl hp
    have x1 : Ext h (h.push (ndC (n.mv m ((x.length : Int) + 5)))) := (Ext.refl h).push _
    obtain ⟨h', e', g⟩ := ih (i + 1) (h.push (ndC (n.mv m ((x.length : Int) + 5)))) (by omega) (by omega) (e.trans x1)
    refine ⟨h', e', fun α kr kx => ?_⟩
    have hq : ∀ n : Nd, (h.push (ndC n)).get h.next = some (ndC n) := fun n => by rw [push_get, if_pos rfl]
    rw [w4SyntaxPairs.u19.l, w4SyntaxPairs.u18.f, w4SyntaxPairs.u9.f, hlen, dT (by omega : (i : Int) < (G.length : Int)), cond_true, w4SyntaxPairs.u17.f, w4SyntaxPairs.u15.f, w4SyntaxPairs.u14.f, w4SyntaxPairs.u10.f, nd_rd (r.ext e) rfl hn, nd_copy, own_kind (hq n), rbelow_run]
    -- the first child's number
    have s1 : ∀ (K : M α), cond (decide (0 < arF n.kind)) (ldI .i64 (((⟨h.next, 0⟩ : Ad).add 1).add 0) fun x17 => st1 (((⟨h.next, 0⟩ : Ad).add 1).add 0) (.int .i64 (w64 (x17 + (m : Int)))) K) K (h.push (ndC n)) = K (h.push (ndC { n with a := (n.mv m ((x.length : Int) + 5)).a })) := by
      intro K
      by_cases h0 : 0 < arF n.kind
      · rw [dT h0, cond_true, own_a (hq n), w64_eq (by omega) (by omega), set_own { n with a := n.a + m } (by decide) rfl rfl]
        unfold Nd.mv
        rw [if_pos (by omega)]
      · rw [dF h0, cond_false]
        unfold Nd.mv
        rw [if_neg (by omega)]
    rw [s1]
    have hk2 : ({ n with a := (n.mv m ((x.length : Int) + 5)).a } : Nd).kind = n.kind := rfl
    rw [w4SyntaxPairs.u13.f, w4SyntaxPairs.u11.f, own_kind (hq _), hk2, rbelow_run]
    have s2 : ∀ (K : M α), cond (decide (1 < arF n.kind)) (ldI .i64 (((⟨h.next, 0⟩ : Ad).add 2).add 0) fun x17 => st1 (((⟨h.next, 0⟩ : Ad).add 2).add 0) (.int .i64 (w64 (x17 + (m : Int)))) K) K (h.push (ndC { n with a := (n.mv m ((x.length : Int) + 5)).a })) = K (h.push (ndC { n with a := (n.mv m ((x.length : Int) + 5)).a, b := (n.mv m ((x.length : Int) + 5)).b })) := by
      intro K
      by_cases h0 : 1 < arF n.kind
      · rw [dT h0, cond_true, own_b (hq _)]
        show st1 _ (.int .i64 (w64 (n.b + (m : Int)))) K _ = _
        rw [w64_eq (by omega) (by omega), set_own { n with a := (n.mv m ((x.length : Int) + 5)).a, b := n.b + m } (by decide) rfl rfl]
        have : (n.mv m ((x.length : Int) + 5)).b = n.b + m := by
          show (if 2 ≤ arF n.kind then n.b + (m : Int) else n.b) = _
          rw [if_pos (by omega)]
        rw [this]
      · rw [dF h0, cond_false]
        have : (n.mv m ((x.length : Int) + 5)).b = n.b := by
          show (if 2 ≤ arF n.kind then n.b + (m : Int) else n.b) = _
          rw [if_neg (by omega)]
        rw [this]
    rw [s2, w4SyntaxPairs.u12.f]
    have p4 : ∀ (n : Nd) (K : Int → M α), ldI .i64 (((⟨h.next, 0⟩ : Ad).add 4).add 0) K (h.push (ndC n)) = K n.pos (h.push (ndC n)) := fun n K => ldI_run (by simp only [add_mk]; rw [cell_of (a := ⟨h.next, 0 + 4 + 0⟩) (hq n)]; rfl)
    rw [p4]
    rw [w64_eq (n := ({ n with a := (n.mv m ((x.length : Int) + 5)).a, b := (n.mv m ((x.length : Int) + 5)).b } : Nd).pos + (x.length : Int)) (by show _ ≤ n.pos + _; omega) (by show n.pos + _ ≤ _; omega)]
    rw [w64_eq (n := ({ n with a := (n.mv m ((x.length : Int) + 5)).a, b := (n.mv m ((x.length : Int) + 5)).b } : Nd).pos + (x.length : Int) + 5) (by show _ ≤ n.pos + _ + _; omega) (by show n.pos + _ + _ ≤ _; omega)]
    rw [set_own (n.mv m ((x.length : Int) + 5)) (by decide) rfl (by unfold Nd.mv Nd.cells; simp; omega)]
    rw [w64_eq (n := (m : Int) + (i : Int)) (by omega) (by omega), nd_rd (q.ext (e.trans x1)) (i := m + i) (by omega) hl, own_all (hq _), eq_nd, dT rfl, Bool.not_true, cond_false, w4SyntaxPairs.u16.f, w64_eq (n := (i : Int) + 1) (by omega) (by omega)]
    exact g α kr kx
end
theorem SyntaxPairs_run {h : H} (a0 b0 : List UInt8) (o : Bool) (ha : a0.length ≤ reachBytes) (hb : b0.length ≤ reachBytes) : ∃ k h', ∀ (α : Type) (ret : Bool → M α), w4SyntaxPairs.f (k + 1) a0 b0 o ret h = ret true h' := by
  obtain ⟨k, hk⟩ : ∃ k, 5000000 ≤ k := ⟨5000000, Nat.le_refl _⟩
  obtain ⟨k, rfl⟩ : ∃ q, k = q + 1 := ⟨k - 1, by omega⟩
  refine ⟨k + 1, ?_⟩
  obtain ⟨h1, e1, x1⟩ := shown4_run k (by omega) h
  have la : (a0.take (min a0.length 20000)).length ≤ 20000 := by simp; omega
  have lb : (b0.take (min b0.length 20000)).length ≤ 20000 := by simp; omega
  have st : ∀ (α : Type) (ret : Bool → M α), w4SyntaxPairs.f (k + 1 + 1) a0 b0 o ret h = syntax_Parse.f (k + 1) (a0.take (min a0.length 20000)) (fun r8 r9 =>
      syntax_Parse.f (k + 1) (b0.take (min b0.length 20000)) fun r10 r11 =>
      asNil r9 fun b12 => cond (!b12) (ret true) (asNil r11 fun b13 => cond (!b13) (ret true) (cond (decide (262134 < w64 (((a0.take (min a0.length 20000)).length : Int) + ((b0.take (min b0.length 20000)).length : Int)))) (ret true) (
        cond o (w4SyntaxPairs.u25.f (k + 1) (a0.take (min a0.length 20000)) (b0.take (min b0.length 20000)) r8 r10 [124] 7 ret) (w4SyntaxPairs.u25.f (k + 1) (a0.take (min a0.length 20000)) (b0.take (min b0.length 20000)) r8 r10 [38] 6 ret))))) h1 := by
    intro α ret
    rw [w4SyntaxPairs.f, w4SyntaxPairs.u26.f, w4SyntaxPairs.u1.f, e1, cut20, cut20]
    rfl
  generalize a0.take (min a0.length 20000) = a at st la
  generalize b0.take (min b0.length 20000) = b at st lb
  rcases parseF_or a with ⟨F, ta, t, pa, pa'⟩ | ⟨e, pa⟩
  rotate_left
  · obtain ⟨h2, q2, e2, x2, _⟩ := parse_fails k (by omega) pa h1
    obtain ⟨sl, v, h3, e3⟩ : ∃ sl v h3, ∀ (α : Type) (ret : Sl → V → M α), syntax_Parse.f (k + 1) b ret h2 = ret sl v h3 := by
      rcases parseF_or b with ⟨G, tb, u, pb, _⟩ | ⟨e, pb⟩
      · obtain ⟨h3, s3, e3, _⟩ := parse_good k (by omega) pb h2; exact ⟨_, _, _, e3⟩
      · obtain ⟨h3, q3, e3, _⟩ := parse_fails k (by omega) pb h2; exact ⟨_, _, _, e3⟩
    refine ⟨h3, fun α ret => ?_⟩
    rw [st, e2, e3, asNil_iface, Bool.not_false, cond_true]
  obtain ⟨h2, s2, e2, x2, p2, o2⟩ := parse_good k (by omega) pa h1
  rcases parseF_or b with ⟨G, tb, u, pb, pb'⟩ | ⟨e, pb⟩
  rotate_left
  · obtain ⟨h3, q3, e3, _⟩ := parse_fails k (by omega) pb h2
    refine ⟨h3, fun α ret => ?_⟩
    rw [st, e2, e3, asNil_nil, Bool.not_true, cond_false, asNil_iface, Bool.not_false, cond_true]
  obtain ⟨h3, s3, e3, x3, p3, o3⟩ := parse_good k (by omega) pb h2
  have hF := pa'.flen
  have hG := pb'.flen
  have hFs := pa'.size
  have hGs := pb'.size
  have ht := Tr.pos t
  have hu := Tr.pos u
  have lF := nd_slen p2.rd
  have lG := nd_slen p3.rd
  obtain ⟨c, hc, hkd⟩ : ∃ c : UInt8, [c] = signO o ∧ True := by cases o <;> exact ⟨_, rfl, trivial⟩
  have st2 : ∀ (α : Type) (ret : Bool → M α), w4SyntaxPairs.f (k + 1 + 1) a0 b0 o ret h = w4SyntaxPairs.u25.f (k + 1) a b s2 s3 [c] (kindO o) ret h3 := by
    intro α ret
    rw [st, e2, e3, asNil_nil, Bool.not_true, cond_false, asNil_nil, Bool.not_true, cond_false, w64_eq (by omega) (by omega), dF (by omega), cond_false, hc]
    cases o <;> rfl
  clear st e2 e3
  have hcat : ∀ (α : Type) (u v : List UInt8) (K : List UInt8 → M α) (h : H), u.length + v.length ≤ 100000 → cat u v K h = K (u ++ v) h := fun α u v K h hl => cat_run (by omega)
  have hT : ((((([40] ++ a) ++ [10, 41]) ++ [c]) ++ [40]) ++ b) ++ [10, 41] = pairX a b c := by simp [pairX]
  obtain ⟨good, many⟩ := pair_parse pa' pb' o hc (by omega)
  have st3 : ∀ (α : Type) (ret : Bool → M α), w4SyntaxPairs.u25.f (k + 1) a b s2 s3 [c] (kindO o) ret h3 = syntax_Parse.f (k + 1) (pairX a b c) (fun r14 r15 =>
      cond (decide (60 ≤ w64 ((s2.len : Int) + (s3.len : Int)))) (asNil r15 fun b16 => cond (!b16) (ret (decide ((r14.len : Int) = 0))) (ret false)) (asNil r15 fun b17 => cond (!b17) (ret false) (cond (!(decide ((r14.len : Int) = w64 ((w64 ((s2.len : Int) + (s3.len : Int))) + 1)))) (ret false) (
        w4SyntaxPairs.u24.f (k + 1) a s2 s3 (kindO o) r14 (s2.len : Int) ret)))) h3 := by
    intro α ret
    rw [w4SyntaxPairs.u25.f, w4SyntaxPairs.u2.f, hcat _ _ _ _ _ (by simp; omega), hcat _ _ _ _ _ (by simp; omega), hcat _ _ _ _ _ (by simp; omega), hcat _ _ _ _ _ (by simp; omega), hcat _ _ _ _ _ (by simp; omega), hcat _ _ _ _ _ (by simp; omega), hT]
  by_cases hge : 60 ≤ F.length + G.length
  · obtain ⟨q, hq⟩ := many hge
    obtain ⟨h4, q4, e4, _⟩ := parse_fails k (by omega) hq h3
    refine ⟨h4, fun α ret => ?_⟩
    rw [st2, st3, e4, lF, lG, w64_eq (by omega) (by omega), dT (by omega), cond_true, asNil_iface, Bool.not_false, cond_true]
    rfl
  · have hL := good (by omega)
    generalize hLd : F.map (Nd.mv 0 1) ++ (G.map (Nd.mv F.length (a.length + 5)) ++ [⟨kindO o, (F.length : Int) - 1, (F.length : Int) + G.length - 1, [], (a.length : Int) + 3⟩]) = L at hL
    obtain ⟨h4, s4, e4, x4, p4, o4⟩ := parse_good k (by omega) hL h3
    have lL := nd_slen p4.rd
    have hLl : L.length = F.length + G.length + 1 := by rw [← hLd]; simp; omega
    have r2 : NdR h4 s2 F := p2.rd.ext (x3.trans x4)
    have r3 : NdR h4 s3 G := p3.rd.ext x4
    have m1 : ∀ (i : Nat) (n : Nd), F[i]? = some n → L[i]? = some (n.mv 0 1) := by
      intro i n hi
      have := get_lt hi
      rw [← hLd, List.getElem?_append_left (by rw [List.length_map]; exact this), List.getElem?_map, hi]
      rfl
    have m2 : ∀ (i : Nat) (n : Nd), G[i]? = some n → L[F.length + i]? = some (n.mv F.length ((a.length : Int) + 5)) := by
      intro i n hi
      have := get_lt hi
      rw [← hLd, List.getElem?_append_right (by rw [List.length_map]; omega), List.length_map, Nat.add_sub_cancel_left, List.getElem?_append_left (by rw [List.length_map]; exact this), List.getElem?_map, hi]
      rfl
    have m3 : L[F.length + G.length]? = some ⟨kindO o, (F.length : Int) - 1, (F.length : Int) + G.length - 1, [], (a.length : Int) + 3⟩ := by
      rw [← hLd, List.getElem?_append_right (by rw [List.length_map]; omega), List.length_map, Nat.add_sub_cancel_left, List.getElem?_append_right (by rw [List.length_map]; omega), List.length_map, Nat.sub_self]
      rfl
    obtain ⟨h5, x5, e5⟩ := pairs_loop1 (k + 1) r2 p4.rd m1 (fun i n hi => ⟨(pa'.nd hi).1, (pa'.nd hi).2.1⟩) (by omega) a s3 (kindO o) (k + 1) 0 h4 (Nat.zero_le _) (by omega) (Ext.refl _)
    obtain ⟨h6, x6, e6⟩ := pairs_loop2 (k + 1) (by omega) (r3.ext x5) (p4.rd.ext x5) a F.length m2 (fun i n hi => pb'.nd hi) (by omega) (by omega) (by omega) (kindO o) (k + 1) 0 h5 (Nat.zero_le _) (by omega) (Ext.refl _)
    refine ⟨h6, fun α ret => ?_⟩
    rw [st2, st3, e4, lF, lG, w64_eq (n := (F.length : Int) + (G.length : Int)) (by omega) (by omega), dF (by omega), cond_false, asNil_nil, Bool.not_true, cond_false, w64_eq (by omega) (by omega), lL, hLl, dT (by omega), Bool.not_true, cond_false]
    rw [w4SyntaxPairs.u24.f, w4SyntaxPairs.u7.f, w4SyntaxPairs.u3.f, w4SyntaxPairs.u6.f, w4SyntaxPairs.u5.f]
    refine (e5 α _ _).trans ?_
    rw [w4SyntaxPairs.u23.f, w4SyntaxPairs.u21.f, w4SyntaxPairs.u8.f, w4SyntaxPairs.u20.f, w4SyntaxPairs.u19.f]
    refine (e6 α _ _).trans ?_
    rw [w4SyntaxPairs.u22.f, lG, w64_eq (n := (F.length : Int) + (G.length : Int)) (by omega) (by omega), nd_rd (p4.rd.ext (x5.trans x6)) (i := F.length + G.length) (by omega) m3]
    rw [w64_eq (by omega) (by omega), w64_eq (by omega) (by omega), w64_eq (by omega) (by omega)]
    rw [eq_nd ⟨kindO o, (F.length : Int) - 1, (F.length : Int) + G.length - 1, [], (a.length : Int) + 3⟩ ⟨kindO o, (F.length : Int) - 1, (F.length : Int) + G.length - 1, [], (a.length : Int) + 3⟩, dT rfl]
theorem SyntaxPairs_law (a b : List UInt8) (o : Bool) (ha : a.length ≤ reachBytes) (hb : b.length ≤ reachBytes) : ∃ k h', ∀ (α : Type) (ret : Bool → M α), w4SyntaxPairs.f (k + 1) a b o ret h0 = ret true h' := SyntaxPairs_run a b o ha hb
end Go.Ab.S3
