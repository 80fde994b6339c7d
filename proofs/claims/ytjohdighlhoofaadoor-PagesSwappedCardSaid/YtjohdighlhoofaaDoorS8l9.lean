import Derived.Test.YtjohdighlhoofaaDoorS8sx
set_option linter.unusedVariables false
set_option linter.unusedSimpArgs false
namespace Go.Ab.S8
theorem zfg {kind:Int} {text:List UInt8} {t:Tok} {r:List Tok} (h0:kind ≠ 0) (hk:t.kind = kind) (ht:text = [] ∨ t.text = text):yv kind text ⟨t :: r, none⟩ = (t.num, ⟨r, none⟩):=by
 rw [zea (s:=⟨t :: r, none⟩) rfl ⟨hk, ht⟩, if_neg h0]; rfl
theorem zfe {a b e:Int} {t:Tok} {r:List Tok} (hk:t.kind = 4) (ha:a≤t.num) (hb:t.num≤b):numP a b e ⟨t :: r, none⟩ = (t.num, ⟨r, none⟩):=by
 unfold numP
 rw [if_neg (fun c=>by have h2:t.num < a ∨ b < t.num:=c.2; omega)]
 exact zfg (by decide) hk (.inl rfl)
theorem zgq:∀ {b:List Tok} {t:Tok} {r:List Tok}, (∀ t ∈ b, t.kind = 1)->t.kind ≠ 1->zaz (b ++ t :: r) = t :: r
 | [], t, r, _, ht=>by rw [List.nil_append, zaz, if_neg ht]
 | u :: b, t, r, h, ht=>by rw [List.cons_append, zaz, if_pos (h u List.mem_cons_self)]; exact zgq (fun x hx=>h x (List.mem_cons_of_mem _ hx)) ht
theorem mvs_fwd (n:Int):∀ (ms:List Tok) (f:Nat) (acc:List Int) (last:Int) (e:Tok) (x:List Tok), (∀ t ∈ ms, t.kind = 4)->yy n last (ms.map Tok.num) = true->e.kind ≠ 4->ms.length < f ->
  mvsP n f acc last ⟨ms ++ e :: x, none⟩ = (acc ++ ms.map Tok.num, ⟨e :: x, none⟩)
 | [], f + 1, acc, last, e, x, _, _, he, _=>by
  rw [mvsP, if_neg (fun c=>he c.2)]; simp
 | t :: ms, f + 1, acc, last, e, x, hm, hb, he, hf=>by
  simp only [List.map_cons, yy, Bool.and_eq_true, decide_eq_true_eq] at hb
  have hk:=hm t List.mem_cons_self
  rw [mvsP, if_pos ⟨rfl, hk⟩, List.cons_append, zfe hk (by omega) (by omega)]
  dsimp only
  rw [mvs_fwd n ms f _ _ e x (fun u hu=>hm u (List.mem_cons_of_mem _ hu)) hb.2 he (by simpa using hf)]
  simp
theorem end_fwd {rest l':List Tok} (h:(rest = l' ∧ ∃ e x, rest = e :: x ∧ e.kind = 0) ∨ ∃ e, rest = e :: l' ∧ e.kind = 1):endP ⟨rest, none⟩ = ⟨l', none⟩:=by
 unfold endP
 rcases h with ⟨rfl, e, x, rfl, he⟩ | ⟨e, rfl, he⟩
 ·rw [if_pos (show (⟨e :: x, none⟩:St).hd.kind = 0 from he)]
 ·rw [if_neg (show ¬ (⟨e :: l', none⟩:St).hd.kind = 0 by show ¬ e.kind = 0; omega), zfg (by decide) he (.inl rfl)]
theorem row_fwd {n i:Int} {l l':List Tok} {r:Rw} (h:RowL n i l l' r):rowP n i ⟨l, none⟩ = (r, ⟨l', none⟩):=by
 obtain ⟨b, ti, to', tp, tc, ms, rest, rfl, hb, ⟨i1, i2⟩, ⟨o1, o2⟩, ⟨p1, p2⟩, ⟨c1, c2⟩, m1, m2, hr⟩:=h.ex
 have ok:=h.ok
 have e1:yc ⟨b ++ (ti :: to' :: tp :: tc :: (ms ++ rest)), none⟩ = ⟨ti :: to' :: tp :: tc :: (ms ++ rest), none⟩:=by
  unfold yc
  dsimp only
  rw [zgq hb (by omega)]
 have ho:=ok.o
 have hp:=ok.p
 have hre:∃ e x, rest = e :: x ∧ e.kind ≠ 4:=by
  rcases hr with ⟨_, e, x, h1, h2⟩ | ⟨e, h1, h2⟩
  ·exact ⟨e, x, h1, by omega⟩
  ·exact ⟨e, _, h1, by omega⟩
 obtain ⟨e, x, rfl, he⟩:=hre
 have e2:zay n ⟨ms ++ e :: x, none⟩ = (r.m, ⟨e :: x, none⟩):=by
  unfold zay
  rw [mvs_fwd n ms _ [] (-1) e x m1 (by rw [m2]; exact ok.m) he (by simp; omega), List.nil_append, m2]
  unfold zgo
  rw [if_neg (fun c=>ok.ne c.1)]
 unfold rowP
 dsimp only
 rw [e1, zfe i1 (by omega) (by omega)]
 dsimp only
 rw [zfe o1 (by omega) (by omega)]
 dsimp only
 rw [zfe p1 (by omega) (by omega)]
 dsimp only
 rw [zfg (by decide) c1 (.inr c2)]
 dsimp only
 rw [e2]
 dsimp only
 rw [end_fwd hr, o2, p2]
theorem head_fwd {ts b rest l1:List Tok} {tg tn:Tok} (hts:ts = b ++ (tg :: tn :: rest)) (hb:∀ t ∈ b, t.kind = 1) (hg:tg.kind = 2 ∧ tg.text = [103, 97, 109, 101]) (hn:tn.kind = 4) (h1:1≤tn.num) (h2:tn.num≤200)
  (hr:(rest = l1 ∧ ∃ e x, rest = e :: x ∧ e.kind = 0) ∨ ∃ e, rest = e :: l1 ∧ e.kind = 1):yn ⟨ts, none⟩ = (tn.num, ⟨l1, none⟩):=by
 have e1:yc ⟨ts, none⟩ = ⟨tg :: tn :: rest, none⟩:=by
  unfold yc
  dsimp only
  rw [hts, zgq hb (by omega)]
 unfold yn
 dsimp only
 rw [e1, zfg (by decide) hg.1 (.inr hg.2)]
 dsimp only
 rw [zfe hn h1 h2]
 dsimp only
 rw [end_fwd hr]
structure RowT (i:Int) (ts:List Tok) (r:Rw):Prop where
 ex:∃ b ti to' tp tc ms, ts = b ++ (ti :: to' :: tp :: tc :: ms) ∧ (∀ t ∈ b, t.kind = 1) ∧ (ti.kind = 4 ∧ ti.num = i) ∧ (to'.kind = 4 ∧ to'.num = r.o) ∧ (tp.kind = 4 ∧ tp.num = r.p) ∧ (tc.kind = 5 ∧ tc.text = [58]) ∧ (∀ t ∈ ms, t.kind = 4) ∧ ms.map Tok.num = r.m
theorem RowT.rowL {n i:Int} {ts rest:List Tok} {r:Rw} (h:RowT i ts r) (ok:RowOk n r.o r.p r.m) {f:Tok} (hf:f.kind = 1):RowL n i (ts ++ f :: rest) rest r:=by
 obtain ⟨b, ti, to', tp, tc, ms, rfl, h1, h2, h3, h4, h5, h6, h7⟩:=h.ex
 exact ⟨⟨b, ti, to', tp, tc, ms, f :: rest, by simp, h1, h2, h3, h4, h5, h6, h7, .inr ⟨f, rfl, hf⟩⟩, ok⟩
theorem zal {w:List UInt8} (hne:w ≠ []) (hp:zgj w):∀ st, jr st w = false:=by
 induction w with
 | nil=>exact absurd rfl hne
 | cons c w ih=>
  intro st
  rw [jr, decide_eq_false (hp c List.mem_cons_self).2]
  cases w with
  | nil=>rfl
  | cons d w=>exact ih (by simp) (fun b hb=>hp b (List.mem_cons_of_mem _ hb)) _
theorem zmp {n i:Nat} {o p:Int} {l:List Int} (hi:i < 1000) (hn:n≤200) (ok:RowOk n o p l) {out:List UInt8} (h:Nz true (zbn i o p ++ l.flatMap mvS) out) :
  jr true (zbn i o p ++ l.flatMap mvS) = false ∧ ∀ P R, zei R->∃ ts, Sx P (out ++ R) ts (P ++ out) R ∧ RowT i ts ⟨o, p, l⟩:=by
 have ho:=ok.o
 have hp:=ok.p
 obtain ⟨on, rfl⟩:=Int.eq_ofNat_of_zero_le ho.1
 obtain ⟨pn, rfl⟩:=Int.eq_ofNat_of_zero_le hp.1
 have hl:∀ v ∈ l, 0≤v ∧ v < 1000:=fun v hv=>by have:=zby ok.m v hv; omega
 rw [show zbn i (on:Int) (pn:Int) ++ l.flatMap mvS = decD i ++ ((32 :: decD on) ++ ((32 :: decD pn) ++ ([32, 58] ++ l.flatMap mvS))) by
  unfold zbn; simp [Int.toNat_natCast]] at h ⊢
 obtain ⟨o1, x1, rfl, h1, h⟩:=h.split
 rw [zal (zdr i hi).2.2.2 (zaf i hi)] at h
 obtain ⟨o2, x2, rfl, h2, h⟩:=h.split
 have q2:jr false (32 :: decD on) = false:=by rw [jr]; exact zal (zdr on (by omega)).2.2.2 (zaf on (by omega)) _
 rw [q2] at h
 obtain ⟨o3, x3, rfl, h3, h⟩:=h.split
 have q3:jr false (32 :: decD pn) = false:=by rw [jr]; exact zal (zdr pn (by omega)).2.2.2 (zaf pn (by omega)) _
 rw [q3] at h
 obtain ⟨o4, o5, rfl, h4, h5⟩:=h.split
 rw [show jr false [32, 58] = false from rfl] at h5
 obtain ⟨add, rfl, ha, _⟩:=h1.word (zdr i hi).2.2.2 (zaf i hi)
 obtain ⟨s2a, s2⟩:=zlx (by omega) h2
 obtain ⟨s3a, s3⟩:=zlx (by omega) h3
 obtain ⟨s4a, s4⟩:=sp_colon h4
 obtain ⟨s5z, s5a, s5⟩:=sp_nums hl h5
 refine ⟨?_, fun P R hR=>?_⟩
 ·rw [zak, zak, zak, zak, zal (zdr i hi).2.2.2 (zaf i hi), q2, q3]
  exact s5z
 ·obtain ⟨b, b1, b2⟩:=ha P (decD i ++ (o2 ++ (o3 ++ (o4 ++ (o5 ++ R)))))
  have t1:=Sx.num (P ++ add) i hi (o2 ++ (o3 ++ (o4 ++ (o5 ++ R)))) (s2a _)
  obtain ⟨t2, u2, k2, v2⟩:=s2 (P ++ add ++ decD i) (o3 ++ (o4 ++ (o5 ++ R))) (s3a _)
  obtain ⟨t3, u3, k3, v3⟩:=s3 (P ++ add ++ decD i ++ o2) (o4 ++ (o5 ++ R)) (s4a _)
  obtain ⟨t4, u4, k4, v4⟩:=s4 (P ++ add ++ decD i ++ o2 ++ o3) (o5 ++ R)
  obtain ⟨ms, u5, k5, v5⟩:=s5 (P ++ add ++ decD i ++ o2 ++ o3 ++ o4) R hR
  refine ⟨_, by have:=((((b1.trans t1).trans u2).trans u3).trans u4).trans u5; simpa [List.append_assoc] using this, ⟨b, _, t2, t3, t4, ms, rfl, b2, ⟨rfl, rfl⟩, ⟨k2, v2⟩, ⟨k3, v3⟩, ⟨k4, v4⟩, k5, v5⟩⟩
theorem head_scan {n:Nat} (hn:n < 1000) {out:List UInt8} (h:Nz true ([103, 97, 109, 101] ++ (32 :: decD n)) out) :
  jr true ([103, 97, 109, 101] ++ (32 :: decD n)) = false ∧ ∀ P R, zei R->∃ b tg tn, Sx P (out ++ R) (b ++ [tg, tn]) (P ++ out) R ∧ (∀ t ∈ b, t.kind = 1) ∧ (tg.kind = 2 ∧ tg.text = [103, 97, 109, 101]) ∧ tn.kind = 4 ∧ tn.num = (n:Int):=by
 have hp:zgj [103, 97, 109, 101]:=by intro b hb; simp at hb; rcases hb with rfl | rfl | rfl | rfl <;> decide
 obtain ⟨o1, o2, rfl, h1, h2⟩:=h.split
 rw [zal (by simp) hp] at h2
 have q2:jr false (32 :: decD n) = false:=by rw [jr]; exact zal (zdr n hn).2.2.2 (zaf n hn) _
 obtain ⟨add, rfl, ha, _⟩:=h1.word (by simp) hp
 obtain ⟨bl, rfl, hb, _⟩:=h2.sp (zaf n hn)
 obtain ⟨s2a, s2⟩:=zlx hn h2
 refine ⟨by rw [zak, zal (by simp) hp]; exact q2, fun P R hR=>?_⟩
 obtain ⟨b, b1, b2⟩:=ha P ([103, 97, 109, 101] ++ (bl ++ 32 :: decD n ++ R))
 have t1:=Sx.name (P ++ add) 103 [97, 109, 101] (bl ++ 32 :: decD n ++ R) _ rfl (kd:=2) (by decide) (.inl rfl) (by decide) (by decide) (fun c s e=>by
  rw [List.append_assoc] at e
  cases bl with
  | nil=>cases e; rfl
  | cons d bl=>
   cases e
   have:=hb c List.mem_cons_self
   simp only [yt, Bool.or_eq_true, decide_eq_true_eq] at this
   have e1:c = 32 ∨ c = 9:=by
    rcases this with h | h
    ·exact .inl (UInt8.toNat_inj.1 (show c.toNat = 32 by omega))
    ·exact .inr (UInt8.toNat_inj.1 (show c.toNat = 9 by omega))
   rcases e1 with rfl | rfl <;> rfl)
 obtain ⟨t2, u2, k2, v2⟩:=s2 (P ++ add ++ [103, 97, 109, 101]) R hR
 refine ⟨b, _, t2, by have:=(b1.trans t1).trans u2; simpa [List.append_assoc] using this, b2, ⟨rfl, rfl⟩, k2, v2⟩
def lsS (i:Nat) (rs:List Rw):List UInt8:=zbw i (rs.map Rw.o) (rs.map Rw.p) (rs.map Rw.m)
theorem lsS_cons (i:Nat) (r:Rw) (rs:List Rw):lsS i (r :: rs) = (zbn i r.o r.p ++ r.m.flatMap mvS) ++ ([10] ++ lsS (i + 1) rs):=by
 show zek i r.o r.p r.m ++ lsS (i + 1) rs = _
 unfold zek
 simp
theorem RowsL.app {n:Int} {i:Int} {l l' l'':List Tok} {rs rs':List Rw} (h:RowsL n i l rs l'):RowsL n (i + rs.length) l' rs' l''->RowsL n i l (rs ++ rs') l'':=by
 induction h with
 | nil=>intro g; simpa using g
 | cons R _ ih=>
  intro g
  refine .cons R (ih ?_)
  simp only [List.length_cons] at g
  rw [show ∀ (i:Int) (k:Nat), i + 1 + (k:Int) = i + ((k + 1:Nat):Int) by intro i k; omega]
  exact g
theorem zjg {n:Nat} (hn:n≤200):∀ (rs:List Rw) (i:Nat) {out:List UInt8}, (∀ r ∈ rs, RowOk n r.o r.p r.m)->i + rs.length≤1000->Nz true (lsS i rs) out ->
  jr true (lsS i rs) = true ∧ ∀ P R, ∃ ts, Sx P (out ++ R) ts (P ++ out) R ∧ ∀ rest, RowsL n i (ts ++ rest) rs rest
 | [], i, out, _, _, h=>by
  cases h
  exact ⟨rfl, fun P R=>⟨[], by simpa using Sx.nil P R, fun rest=>.nil⟩⟩
 | r :: rs, i, out, hr, hi, h=>by
  rw [lsS_cons] at h ⊢
  simp only [List.length_cons] at hi
  obtain ⟨o1, x1, rfl, h1, h⟩:=h.split
  obtain ⟨k1, k2⟩:=zmp (by omega) hn (hr r List.mem_cons_self) h1
  rw [k1] at h
  obtain ⟨o2, o3, rfl, h2, h3⟩:=h.split
  obtain rfl:=h2.feed
  rw [show jr false [10] = true from rfl] at h3
  obtain ⟨g1, g2⟩:=zjg hn rs (i + 1) (fun r hr'=>hr r (List.mem_cons_of_mem _ hr')) (by omega) h3
  refine ⟨by rw [zak, zak, k1]; exact g1, fun P R=>?_⟩
  obtain ⟨t1, s1, R1⟩:=k2 P ([10] ++ o3 ++ R) (by
   rw [List.append_assoc]; exact zeq _)
  have s2:=Sx.line (P ++ o1) (o3 ++ R)
  obtain ⟨t3, s3, R3⟩:=g2 (P ++ o1 ++ [10]) R
  refine ⟨_, by
   have:=(s1.trans (q:=P ++ o1) (us:=_) (v:=_) (by simpa using s2)).trans s3
   simpa [List.append_assoc] using this, fun rest=>?_⟩
  have:=R1.rowL (n:=n) (rest:=t3 ++ rest) (hr r List.mem_cons_self) (f:=⟨1, ((P ++ o1).length:Nat), [10], 0⟩) rfl
  have e:((i:Nat):Int) + 1 = ((i + 1:Nat):Int):=by omega
  have hc:RowsL n i (t1 ++ ⟨1, ((P ++ o1).length:Nat), [10], 0⟩ :: (t3 ++ rest)) (r :: rs) rest:=.cons this (by rw [e]; exact R3 rest)
  simpa [List.append_assoc] using hc
theorem ok_rows {g:Gm} (h:Ok g):∃ rs, g = zbi rs ∧ rs.length = g.mv.length ∧ ∀ r ∈ rs, RowOk g.mv.length r.o r.p r.m:=by
 have key:∀ (os ps:List Int) (ls:List (List Int)), os.length = ls.length->ps.length = ls.length->∃ rs:List Rw, rs.map Rw.o = os ∧ rs.map Rw.p = ps ∧ rs.map Rw.m = ls:=by
  intro os
  induction os with
  | nil=>intro ps ls h1 h2; exact ⟨[], rfl, by cases ls <;> simp_all, by cases ls <;> simp_all⟩
  | cons o os ih=>
   intro ps ls h1 h2
   cases ls with
   | nil=>simp at h1
   | cons l ls=>
    cases ps with
    | nil=>simp at h2
    | cons p ps=>
     obtain ⟨rs, e1, e2, e3⟩:=ih ps ls (by simpa using h1) (by simpa using h2)
     exact ⟨⟨o, p, l⟩ :: rs, by simp [e1], by simp [e2], by simp [e3]⟩
 obtain ⟨rs, e1, e2, e3⟩:=key g.ow g.pr g.mv h.l1 h.l2
 refine ⟨rs, by unfold zbi; rw [e1, e2, e3], by rw [← e3]; simp, fun r hr=>?_⟩
 obtain ⟨i, hi⟩:=List.getElem?_of_mem hr
 exact h.row i _ _ _ (by rw [← e1, List.getElem?_map, hi]; rfl) (by rw [← e2, List.getElem?_map, hi]; rfl) (by rw [← e3, List.getElem?_map, hi]; rfl)
theorem znd (rs:List Rw):zbe (zbi rs) = ([103, 97, 109, 101] ++ (32 :: decD rs.length)) ++ ([10] ++ lsS 0 rs):=by
 unfold zbe topS zbi lsS
 simp
theorem scan_all {s:List UInt8} {ts:List Tok} (h:Sx [] s ts s []) (hl:s.length≤262144):zcu s = .ok (ts ++ [⟨0, (s.length:Nat), [], 0⟩]):=by
 have:=h.2
 rw [List.nil_append] at this
 exact this.okF hl
theorem zht:∀ (s:List UInt8) (st:Bool), Nz st s s
 | [], st=>.nil
 | c :: s, st=>by
  have:=Nz.cons (st:=st) (c:=c) (add:=[]) (by
   unfold NzA
   split
   ·intro b hb; cases hb
   ·split
    ·exact zms fun b hb=>by cases hb
    ·rfl) (zht s (decide (c = 10)))
  simpa using this
end Go.Ab.S8
namespace Go.Ab.S8
variable {α:Type} {h:H}
theorem GmO.gm {h:H} {n:Nat} {o p m:Sl} {g:Gm} (G:GmO h n o p m g):GmR h o p m g:=by
 obtain ⟨q3, b, rows, _, B⟩:=G
 exact B.gm
end Go.Ab.S8
namespace Go.Ab.S8
theorem Sc.split {text:List UInt8} {n m:Nat} {ts:List Tok} (s:Sc text n ts m):∀ {A B:List Tok}, ts = A ++ B->∃ q, Sc text n A q ∧ Sc text q B m:=by
 induction s with
 | nil h=>
  intro A B e
  have:=List.append_eq_nil_iff.1 e.symm
  rw [this.1, this.2]
  exact ⟨_, .nil h, .nil h⟩
 | blank hc hb _ ih=>
  intro A B e
  obtain ⟨q, h1, h2⟩:=ih e
  exact ⟨q, .blank hc hb h1, h2⟩
 | rem hc hb hr _ ih=>
  intro A B e
  obtain ⟨q, h1, h2⟩:=ih e
  exact ⟨q, .rem hc hb hr h1, h2⟩
 | tok hc hb hr he s ih=>
  intro A B e
  cases A with
  | nil=>rw [List.nil_append] at e; subst e; exact ⟨_, .nil (Nat.le_of_lt (zbm hc)), .tok hc hb hr he s⟩
  | cons t A=>
   simp only [List.cons_append, List.cons.injEq] at e
   obtain ⟨rfl, e⟩:=e
   obtain ⟨q, h1, h2⟩:=ih e
   exact ⟨q, .tok hc hb hr he h1, h2⟩
theorem Sc.lt {text:List UInt8} {n m:Nat} {ts:List Tok} (s:Sc text n ts m):n≤m ∧ (ts ≠ []->n < m):=by
 induction s with
 | nil _=>exact ⟨Nat.le_refl _, fun h=>absurd rfl h⟩
 | blank _ _ _ ih=>exact ⟨by omega, fun h=>by have:=ih.2 h; omega⟩
 | rem _ _ _ _ ih=>exact ⟨by omega, fun h=>by have:=ih.2 h; omega⟩
 | tok hc _ _ _ _ ih=>
  rename_i n m ts c _ _ _ _
  have:=(zbs (c:=c) (zbm hc)).1
  exact ⟨by have:=ih.1; omega, fun _=>by have:=ih.1; omega⟩
theorem Sc.det {text:List UInt8} {n m:Nat} {A:List Tok} (s:Sc text n A m):∀ {us:List Tok}, Sc text n us text.length->∃ C, us = A ++ C:=by
 induction s with
 | nil h=>intro us _; exact ⟨us, rfl⟩
 | blank hc hb _ ih=>
  intro us g
  cases g with
  | nil h=>have:=zbm hc; omega
  | blank _ _ g=>exact ih g
  | rem hc' hb' _ _=>rw [hc] at hc'; cases hc'; rw [hb] at hb'; cases hb'
  | tok hc' hb' _ _ _=>rw [hc] at hc'; cases hc'; rw [hb] at hb'; cases hb'
 | rem hc hb hr _ ih=>
  intro us g
  cases g with
  | nil h=>have:=zbm hc; omega
  | blank hc' hb' g=>rw [hc] at hc'; cases hc'; rw [hb] at hb'; cases hb'
  | rem _ _ _ g=>exact ih g
  | tok hc' _ hr' _ _=>rw [hc] at hc'; cases hc'; rw [hr] at hr'; cases hr'
 | tok hc hb hr he _ ih=>
  intro us g
  cases g with
  | nil h=>have:=zbm hc; omega
  | blank hc' hb' g=>rw [hc] at hc'; cases hc'; rw [hb] at hb'; cases hb'
  | rem hc' _ hr' _=>rw [hc] at hc'; cases hc'; rw [hr] at hr'; cases hr'
  | tok hc' _ _ _ g=>
   rw [hc] at hc'; cases hc'
   obtain ⟨C, rfl⟩:=ih g
   exact ⟨C, rfl⟩
end Go.Ab.S8
namespace Go.Ab.S8
variable {α:Type} {h:H}
theorem zmg (k:Nat) {c:Int} {m:Nat} (h1:-9223372036854775808≤c) (h2:c≤9223372036854775807) (hm:1≤m) (hh:H):∃ r:Nat, r < m ∧ ∀ (α:Type) (ret:Int->M α), qq.f (k + 1) c (m:Int) ret hh = ret (r:Int) hh:=by
 have hne:(!decide ((m:Int) = 0)) = true:=by rw [decide_eq_false (by omega)]; rfl
 have key:∀ x:Int, 0≤x->∃ r:Nat, r < m ∧ Int.tmod x (m:Int) = (r:Int):=by
  intro x hx
  have a:=Int.tmod_nonneg (m:Int) hx
  have b:=Int.tmod_lt_of_pos x (show (0:Int) < (m:Int) by omega)
  exact ⟨(Int.tmod x (m:Int)).toNat, by omega, by omega⟩
 by_cases hc:c < 0
 ·obtain ⟨r, hr, e⟩:=key (-(c + 1)) (by omega)
  refine ⟨r, hr, fun α ret=>?_⟩
  rw [qq.f, qq.u1.f, dT hc, cond_true, zq hne, jg (n:=c + 1) (by omega) (by omega), show (0:Int) - (c + 1) = -(c + 1) by omega, jg (by omega) (by omega), e]
 ·obtain ⟨r, hr, e⟩:=key c (by omega)
  refine ⟨r, hr, fun α ret=>?_⟩
  rw [qq.f, qq.u1.f, dF hc, cond_false, zq hne, e]
end Go.Ab.S8
namespace Go.Ab.S8
variable {α:Type} {h:H}
theorem byte_eq {a:UInt8} {n:Nat} (hn:n < 256):((a.toNat:Int) = (n:Int)) ↔ a = UInt8.ofNat n:=by
 constructor
 ·intro e
  have e:a.toNat = n:=by omega
  subst e
  simp
 ·intro e
  subst e
  rw [UInt8.toNat_ofNat']
  omega
end Go.Ab.S8
namespace Go.Ab.S8
def zn (p:Nat × Rw):List UInt8:=zek p.1 p.2.o p.2.p p.2.m
def jz:Nat->List Rw->List (Nat × Rw)
 | _, []=>[]
 | i, r :: rs=>(i, r) :: jz (i + 1) rs
theorem zkh:∀ (i:Nat) (rs:List Rw), (jz i rs).length = rs.length
 | _, []=>rfl
 | i, r :: rs=>by rw [jz, List.length_cons, zkh (i + 1) rs, List.length_cons]
theorem zec:∀ (rs:List Rw) (i j:Nat), (jz i rs)[j]? = rs[j]?.map fun r=>(i + j, r)
 | [], _, _=>by simp [jz]
 | r :: rs, i, 0=>by simp [jz]
 | r :: rs, i, j + 1=>by rw [jz, List.getElem?_cons_succ, List.getElem?_cons_succ, zec rs (i + 1) j, show i + 1 + j = i + (j + 1) by omega]
theorem zjj:∀ (rs:List Rw) (i m:Nat), (jz i rs).take m = jz i (rs.take m)
 | rs, i, 0=>by simp [jz]
 | [], i, m + 1=>by simp [jz]
 | r :: rs, i, m + 1=>by rw [jz, List.take_succ_cons, List.take_succ_cons, jz, zjj rs (i + 1) m]
theorem zeb:∀ (rs:List Rw) (i:Nat), (jz i rs).flatMap zn = lsS i rs
 | [], _=>rfl
 | r :: rs, i=>by rw [jz, List.flatMap_cons, zeb rs (i + 1)]; rfl
theorem zij (p:Nat × Rw):zn p = (zbn p.1 p.2.o p.2.p ++ p.2.m.flatMap mvS) ++ [10]:=by
 unfold zn zek
 simp
def zja (n:Nat) (p:Nat × Rw):Prop:=p.1 < 1000 ∧ RowOk n p.2.o p.2.p p.2.m
theorem gl_scan {n:Nat} (hn:n≤200):∀ (ps:List (Nat × Rw)), (∀ p ∈ ps, zja n p)->∀ P R, ∃ ts, Sx P (ps.flatMap zn ++ R) ts (P ++ ps.flatMap zn) R
 | [], _, P, R=>⟨[], by simpa using Sx.nil P R⟩
 | p :: ps, h, P, R=>by
  have hp:=h p List.mem_cons_self
  obtain ⟨t1, s1, _⟩:=(zmp hp.1 hn hp.2 (zht _ true)).2 P ([10] ++ (ps.flatMap zn ++ R)) (zeq _)
  have s2:=Sx.line (P ++ (zbn p.1 p.2.o p.2.p ++ p.2.m.flatMap mvS)) (ps.flatMap zn ++ R)
  obtain ⟨t3, s3⟩:=gl_scan hn ps (fun q hq=>h q (List.mem_cons_of_mem _ hq)) (P ++ (zbn p.1 p.2.o p.2.p ++ p.2.m.flatMap mvS) ++ [10]) R
  refine ⟨t1 ++ [⟨1, ((P ++ (zbn p.1 p.2.o p.2.p ++ p.2.m.flatMap mvS)).length:Nat), [10], 0⟩] ++ t3, ?_⟩
  have:=(s1.trans (by simpa using s2)).trans s3
  rw [List.flatMap_cons, zij]
  simpa [List.append_assoc] using this
theorem gl_len {n:Nat} (hn:n≤200):∀ (ps:List (Nat × Rw)), (∀ p ∈ ps, zja n p)->(ps.flatMap zn).length≤820 * ps.length
 | [], _=>by simp
 | p :: ps, h=>by
  have h1:=zgu (n:=(n:Int)) p.1 (by omega) (h p List.mem_cons_self).2
  have h2:=gl_len hn ps fun q hq=>h q (List.mem_cons_of_mem _ hq)
  rw [List.flatMap_cons, List.length_append, List.length_cons]
  have:(zn p).length≤820:=h1
  omega
theorem rows_fwd' {n:Int}:∀ {i:Int} {l l':List Tok} {rs:List Rw}, RowsL n i l rs l'->∀ (c:Nat) g, zax n (rs.length + c) i g ⟨l, none⟩ = zax n c (i + rs.length) (rs.foldl Gm.add g) ⟨l', none⟩:=by
 intro i l l' rs h
 induction h with
 | nil=>intro c g; simp
 | cons R _ ih=>
  intro c g
  rw [List.length_cons, show ∀ a b:Nat, a + 1 + b = (a + b) + 1 by intro a b; omega, zax, if_pos (show (none:Option (Int × Int)).isNone = true from rfl), row_fwd R]
  dsimp only
  rw [ih]
  rw [show ∀ (i:Int) (k:Nat), i + 1 + (k:Int) = i + ((k + 1:Nat):Int) by intro i k; omega]
  rfl
theorem row_wrong {n:Int} {i:Nat} {t:Tok} {X:List Tok} (hk:t.kind = 4) (hn:t.num ≠ (i:Int)):(rowP n i ⟨t :: X, none⟩).2.f = some (t.pos, 8):=by
 have e1:yc ⟨t :: X, none⟩ = ⟨t :: X, none⟩:=by
  unfold yc
  dsimp only
  rw [zaz, if_neg (by omega)]
 have e2:numP i i 8 ⟨t :: X, none⟩ = (0, ⟨t :: X, some (t.pos, 8)⟩):=by
  unfold numP
  rw [if_pos ⟨hk, by show t.num < (i:Int) ∨ (i:Int) < t.num; omega⟩, zeu rfl, yk rfl]
  rfl
 have fs:∀ (s:St) {fe:Int × Int}, s.f = some fe->∀ a b e, (numP a b e s).2 = s:=by
  intro s fe hf a b e
  unfold numP
  split
  ·rw [zcz hf, yk hf]
  ·rw [yk hf]
 have fm:∀ (s:St) {fe:Int × Int}, s.f = some fe->(zay n s).2 = s:=by
  intro s fe hf
  unfold zay
  rw [mvsP, if_neg (fun c=>by have:=c.1; rw [hf] at this; cases this)]
  unfold zgo
  dsimp only
  split
  ·exact zcz hf
  ·rfl
 have fe:∀ (s:St) {fe:Int × Int}, s.f = some fe->endP s = s:=by
  intro s fe hf
  unfold endP
  split
  ·rfl
  ·rw [yk hf]
 unfold rowP
 dsimp only
 rw [e1, e2]
 dsimp only
 rw [fs ⟨t :: X, some (t.pos, 8)⟩ rfl, fs ⟨t :: X, some (t.pos, 8)⟩ rfl, yk rfl]
 dsimp only
 rw [fm ⟨t :: X, some (t.pos, 8)⟩ rfl, fe ⟨t :: X, some (t.pos, 8)⟩ rfl]
theorem znq {n:Int}:∀ (c:Nat) (i:Int) (g:Gm) (s:St) (fe:Int × Int), s.f = some fe->(zax n c i g s).2 = s
 | 0, i, g, s, fe, _=>rfl
 | c + 1, i, g, s, fe, h=>by rw [zax, h, if_neg (by simp)]
theorem swap_err {g:Gm} (ok:Ok g) {rs:List Rw} (e:g = zbi rs) (hlen:rs.length = g.mv.length) (hr:∀ r ∈ rs, RowOk g.mv.length r.o r.p r.m) {ps:List (Nat × Rw)} {m j:Nat} (hmj:m < j) (hj:j < rs.length)
  (hpl:ps.length = rs.length) (h1:∀ i, i < m->ps[i]? = (jz 0 rs)[i]?) (h2:ps[m]? = (jz 0 rs)[j]?) (h3:∀ p ∈ ps, p ∈ jz 0 rs) :
  zgb (topS rs.length ++ ps.flatMap zn) = .error (((topS rs.length ++ (ps.take m).flatMap zn).length:Nat), 8):=by
 have n2:=ok.n2
 have hN:rs.length≤200:=by omega
 have hr:∀ r ∈ rs, RowOk (rs.length:Nat) r.o r.p r.m:=by rw [hlen]; exact hr
 have good:∀ p ∈ ps, zja rs.length p:=by
  intro p hp
  obtain ⟨q, hq⟩:=List.getElem?_of_mem (h3 p hp)
  rw [zec] at hq
  cases hx:rs[q]? with
  | none=>rw [hx] at hq; cases hq
  | some r=>
   rw [hx] at hq
   cases hq
   exact ⟨by have:=zbf hx; show 0 + q < 1000; omega, hr r (List.mem_of_getElem? hx)⟩
 have htake:ps.take m = jz 0 (rs.take m):=by
  rw [← zjj]
  apply List.ext_getElem?
  intro i
  rw [List.getElem?_take, List.getElem?_take]
  split
  ·rename_i hi; exact h1 i hi
  ·rfl
 obtain ⟨r, hrj⟩:∃ r, rs[j]? = some r:=⟨rs[j], List.getElem?_eq_getElem hj⟩
 have hm:ps[m]? = some (j, r):=by rw [h2, zec, hrj]; simp
 have hml:m < ps.length:=by omega
 have hdec:ps = ps.take m ++ (j, r) :: ps.drop (m + 1):=by
  have:ps[m] = (j, r):=by rw [List.getElem?_eq_getElem hml] at hm; exact Option.some.inj hm
  rw [← this, ← List.drop_eq_getElem_cons hml, List.take_append_drop]
 have hl:(topS rs.length ++ ps.flatMap zn).length≤262144:=by
  have a:=gl_len hN ps good
  have b:=yq rs.length
  unfold topS
  simp only [List.length_append, List.length_cons, List.length_nil]
  omega
 -- what is read of the whole
 have k2:=(head_scan (n:=rs.length) (by omega) (zht _ true)).2
 have hT:topS rs.length = ([103, 97, 109, 101] ++ (32 :: decD rs.length)) ++ [10]:=by unfold topS; simp
 generalize ([103, 97, 109, 101] ++ (32 :: decD rs.length)) = o1 at k2 hT
 rw [hT] at hl ⊢
 obtain ⟨b, tg, tn, s1, b1, b2, b3, b4⟩:=k2 [] ([10] ++ ps.flatMap zn) (zeq _)
 have s2:=Sx.line o1 (ps.flatMap zn)
 obtain ⟨tw, sw⟩:=gl_scan hN ps good (o1 ++ [10]) []
 have W:Sx [] (o1 ++ [10] ++ ps.flatMap zn) (b ++ [tg, tn] ++ [⟨1, (o1.length:Nat), [10], 0⟩] ++ tw) (o1 ++ [10] ++ ps.flatMap zn) []:=by
  have:=(s1.trans (by simpa using s2)).trans (by simpa using sw)
  simpa [List.append_assoc] using this
 -- .. and of its beginning
 obtain ⟨t3, s3, R3⟩:=(zjg hN (rs.take m) 0 (fun x hx=>hr x (List.mem_of_mem_take hx)) (by rw [List.length_take]; omega) (zht _ true)).2 (o1 ++ [10]) (zn (j, r) ++ (ps.drop (m + 1)).flatMap zn)
 have hflat:ps.flatMap zn = lsS 0 (rs.take m) ++ (zn (j, r) ++ (ps.drop (m + 1)).flatMap zn):=by
  have e1:ps.flatMap zn = (ps.take m ++ (j, r) :: ps.drop (m + 1)).flatMap zn:=by rw [← hdec]
  rw [e1, List.flatMap_append, List.flatMap_cons, htake, zeb]
 have hline:zn (j, r) ++ (ps.drop (m + 1)).flatMap zn = decD j ++ (32 :: (decD r.o.toNat ++ ([32] ++ (decD r.p.toNat ++ [32, 58])) ++ (r.m.flatMap mvS ++ [10]) ++ (ps.drop (m + 1)).flatMap zn)):=by
  unfold zn zek zbn
  simp
 have s4:=Sx.num (o1 ++ [10] ++ lsS 0 (rs.take m)) j (by omega) (32 :: (decD r.o.toNat ++ ([32] ++ (decD r.p.toNat ++ [32, 58])) ++ (r.m.flatMap mvS ++ [10]) ++ (ps.drop (m + 1)).flatMap zn)) (by
  intro c s hc; cases hc; rfl)
 rw [← hline] at s4
 have F:Sx [] (o1 ++ [10] ++ ps.flatMap zn) (b ++ [tg, tn] ++ [⟨1, (o1.length:Nat), [10], 0⟩] ++ t3 ++ [⟨4, ((o1 ++ [10] ++ lsS 0 (rs.take m)).length:Nat), decD j, (j:Int)⟩]) (o1 ++ [10] ++ lsS 0 (rs.take m) ++ decD j) (32 :: (decD r.o.toNat ++ ([32] ++ (decD r.p.toNat ++ [32, 58])) ++ (r.m.flatMap mvS ++ [10]) ++ (ps.drop (m + 1)).flatMap zn)):=by
  have s1':Sx [] (o1 ++ ([10] ++ ps.flatMap zn)) (b ++ [tg, tn]) o1 ([10] ++ ps.flatMap zn):=by simpa using s1
  have s3':Sx (o1 ++ [10]) (ps.flatMap zn) t3 (o1 ++ [10] ++ lsS 0 (rs.take m)) (zn (j, r) ++ (ps.drop (m + 1)).flatMap zn):=by rw [hflat]; exact s3
  have:=((s1'.trans s2).trans s3').trans s4
  rw [List.append_assoc o1 [10] (ps.flatMap zn)]
  exact this
 have wsc:=W.2
 have fsc:=F.2
 rw [List.nil_append] at wsc fsc
 obtain ⟨C, hC⟩:=fsc.det wsc
 unfold zgb
 rw [scan_all W hl]
 dsimp only
 rw [hC]
 generalize hE:(⟨0, ((o1 ++ [10] ++ ps.flatMap zn).length:Nat), [], 0⟩:Tok) = E
 generalize hTk:(⟨4, ((o1 ++ [10] ++ lsS 0 (rs.take m)).length:Nat), decD j, (j:Int)⟩:Tok) = t
 have tk:t.kind = 4:=by rw [← hTk]
 have tn':t.num = (j:Int):=by rw [← hTk]
 have tp:t.pos = ((o1 ++ [10] ++ (ps.take m).flatMap zn).length:Nat):=by rw [← hTk, htake, zeb]
 have hh:=head_fwd (ts:=b ++ [tg, tn] ++ [⟨1, (o1.length:Nat), [10], 0⟩] ++ t3 ++ [t] ++ C ++ [E]) (b:=b) (rest:=⟨1, (o1.length:Nat), [10], 0⟩ :: (t3 ++ (t :: (C ++ [E])))) (l1:=t3 ++ (t :: (C ++ [E]))) (tg:=tg) (tn:=tn) (by simp) b1 b2 b3 (by omega) (by omega) (.inr ⟨_, rfl, rfl⟩)
 unfold pageP
 rw [hh]
 dsimp only
 have hcount:tn.num.toNat = (rs.take m).length + ((rs.length - m - 1) + 1):=by rw [b4, List.length_take]; omega
 have R3':∀ rest, RowsL ((rs.length:Nat):Int) (0:Int) (t3 ++ rest) (rs.take m) rest:=R3
 rw [hcount, b4, rows_fwd' (R3' _), zax, if_pos (show (none:Option (Int × Int)).isNone = true from rfl)]
 have hw:=row_wrong (n:=((rs.length:Nat):Int)) (i:=m) (t:=t) (X:=C ++ [E]) tk (by rw [tn']; omega)
 have hidx:((0:Nat):Int) + ((rs.take m).length:Int) = ((m:Nat):Int):=by rw [List.length_take]; omega
 have hidx':(0:Int) + ((rs.take m).length:Int) = ((m:Nat):Int):=by rw [List.length_take]; omega
 rw [show ((0:Int) + ((rs.take m).length:Nat)) = ((m:Nat):Int) from hidx']
 unfold zlr
 rw [znq _ _ _ _ _ hw]
 have hb:(yc (rowP ((rs.length:Nat):Int) (m:Int) ⟨t :: (C ++ [E]), none⟩).2).f = some (t.pos, 8):=hw
 rw [yk hb, hb, tp]
end Go.Ab.S8
namespace Go.Ab.S8
variable {α:Type} {h:H}
def splF:List UInt8->List UInt8->List (List UInt8)
 | _, []=>[]
 | cur, c :: r=>if c = 10 then (cur ++ [c]) :: splF [] r else splF (cur ++ [c]) r
theorem zgf:∀ (w r cur:List UInt8), (∀ b ∈ w, b ≠ 10)->splF cur (w ++ 10 :: r) = (cur ++ w ++ [10]) :: splF [] r
 | [], r, cur, _=>by simp [splF]
 | c :: w, r, cur, h=>by
  rw [List.cons_append, splF, if_neg (h c List.mem_cons_self), zgf w r _ fun b hb=>h b (List.mem_cons_of_mem _ hb)]
  simp
theorem zio (n:Nat) (hn:n < 1000):∀ b ∈ decD n, b ≠ 10:=fun b hb=>(zaf n hn b hb).2
theorem mvs_nl {l:List Int} (h:∀ v ∈ l, 0≤v ∧ v < 1000):∀ b ∈ l.flatMap mvS, b ≠ 10:=by
 intro b hb
 obtain ⟨v, hv, hb⟩:=List.mem_flatMap.1 hb
 unfold mvS at hb
 rcases List.mem_cons.1 hb with rfl | hb
 ·decide
 ·have:=h v hv; exact zio _ (by omega) b hb
theorem row_nl {n:Nat} {p:Nat × Rw} (hn:n≤200) (g:zja n p):∀ b ∈ zbn p.1 p.2.o p.2.p ++ p.2.m.flatMap mvS, b ≠ 10:=by
 intro b hb
 have ho:=g.2.o
 have hp:=g.2.p
 rcases List.mem_append.1 hb with hb | hb
 ·unfold zbn at hb
  simp only [List.mem_append, List.mem_cons, List.not_mem_nil, or_false] at hb
  rcases hb with hb | rfl | hb | rfl | hb | rfl | rfl
  ·exact zio _ g.1 b hb
  ·decide
  ·exact zio _ (by omega) b hb
  ·decide
  ·exact zio _ (by omega) b hb
  ·decide
  ·decide
 ·exact mvs_nl (fun v hv=>by have:=zby g.2.m v hv; omega) b hb
theorem zkp {n:Nat} (hn:n≤200):∀ (ps:List (Nat × Rw)), (∀ p ∈ ps, zja n p)->splF [] (ps.flatMap zn) = ps.map zn
 | [], _=>rfl
 | p :: ps, h=>by
  rw [List.flatMap_cons, zij, List.append_assoc]
  rw [show [10] ++ ps.flatMap zn = 10 :: ps.flatMap zn from rfl, zgf _ _ _ (row_nl hn (h p List.mem_cons_self)), zkp hn ps fun q hq=>h q (List.mem_cons_of_mem _ hq), List.map_cons, zij, List.nil_append]
theorem zia {n:Nat} {rs:List Rw} (hl:rs.length≤200) (h:∀ r ∈ rs, RowOk n r.o r.p r.m):∀ p ∈ jz 0 rs, zja n p:=by
 intro p hp
 obtain ⟨q, hq⟩:=List.getElem?_of_mem hp
 rw [zec] at hq
 cases hx:rs[q]? with
 | none=>rw [hx] at hq; cases hq
 | some r=>
  rw [hx] at hq
  cases hq
  exact ⟨by have:=zbf hx; show 0 + q < 1000; omega, h r (List.mem_of_getElem? hx)⟩
theorem znz {rs:List Rw} (hl:rs.length≤200) (h:∀ r ∈ rs, RowOk (rs.length:Nat) r.o r.p r.m):splF [] (zbe (zbi rs)) = topS rs.length :: (jz 0 rs).map zn:=by
 have hg:∀ b ∈ ([103, 97, 109, 101] ++ (32 :: decD rs.length):List UInt8), b ≠ 10:=by
  intro b hb
  rcases List.mem_append.1 hb with hb | hb
  ·simp only [List.mem_cons, List.not_mem_nil, or_false] at hb
   rcases hb with rfl | rfl | rfl | rfl <;> decide
  ·rcases List.mem_cons.1 hb with rfl | hb
   ·decide
   ·exact zio _ (by omega) b hb
 rw [znd, show [10] ++ lsS 0 rs = 10 :: lsS 0 rs from rfl, zgf _ _ _ hg, ← zeb, zkp hl _ (zia hl h), List.nil_append]
 congr 1
structure LnR (h:H) (b:Nat) (s:Sl) (ls:List (List UInt8)):Prop where
 app:App h s 1 (ls.flatMap cS)
 top:∀ a, s.ad = some a->b≤a.id
 nx:b≤h.next
 own:ls ≠ []->Own h s 1 (ls.flatMap cS)
theorem slen' {s:Sl} {ls:List (List UInt8)} (r:Rd h s 1 (ls.flatMap cS)):s.len = ls.length:=zex (c:=cS) (fun _=>rfl) r
theorem ln_add {b:Nat} {s:Sl} {ls:List (List UInt8)} (r:LnR h b s ls) (x:List UInt8) (hl:ls.length≤1000) :
  ∃ s' h', (∀ (α:Type) (K:Sl->M α), (new [.str x] fun a=>jk s 1 16 ⟨some a, 1, 1, none⟩ K) h = K s' h') ∧ LnR h' b s' (ls ++ [x]) ∧ Keep b h h':=by
 have x1:Ext h (h.push (.cells [.str x] true)):=(Ext.refl h).push _
 have n1:(h.push (.cells [.str x] true)).next = h.next + 1:=rfl
 have hlen:=slen' r.app.rd
 obtain ⟨h', e, A, g, kp⟩:=zhn (bytes:=16) (more:=[.str x]) (r.app.ext x1) (x:=⟨some ⟨h.next, 0⟩, 1, 1, none⟩) (zim (ye _) (by omega)) Nat.one_pos (by decide) (by show (s.len + 1 + (s.len + 1) / 4 + 512) * 16≤_; omega)
 have hf:ls.flatMap cS ++ [.str x] = (ls ++ [x]).flatMap cS:=by simp [cS]
 rw [hf] at A g
 refine ⟨_, h', fun α K=>by rw [jc rfl]; exact e α K, ⟨A, fun a ha=>by cases ha; have:=r.nx; show b≤h.next + 1; omega, by rw [kp.1, n1]; have:=r.nx; omega, fun _=>⟨A.rd.len, _, [], rfl, by rw [List.append_nil]; exact g, by rw [kp.1]; exact Nat.lt_succ_self _⟩⟩, (Keep.of x1 r.nx).trans ⟨by rw [kp.1]; omega, fun i hi=>kp.2 i (by have:=r.nx; omega) fun _ a ha=>by have:=r.top a ha; omega⟩⟩
theorem spl_loop (k:Nat) {text:List UInt8} (hl:text.length≤164020) (n1 n2:Int) (q:Ad) {h₀:H}:∀ (f i fr:Nat) (h:H) (s:Sl) (ls:List (List UInt8)), i≤text.length->text.length - i < f->fr≤i->Ext h₀ h->LnR h h₀.next s ls->ls.length + (splF ((text.take i).drop fr) (text.drop i)).length≤1000 ->
  ∃ s' h', Ext h₀ h' ∧ LnR h' h₀.next s' (ls ++ splF ((text.take i).drop fr) (text.drop i)) ∧ ∀ (α:Type) (kx:Int->Int->Ad->Sl->M α), qc.u4.l k kx f n1 n2 q text s (fr:Int) (i:Int) h = kx n1 n2 q s' h':=by
 intro f
 induction f with
 | zero=>intro i fr h s ls _ hf; omega
 | succ f ih=>
  intro i fr h s ls hi hf hfr x B hN
  by_cases hlt:i < text.length
  ·have hc:text[i]? = some text[i]:=List.getElem?_eq_getElem hlt
   have hw:w64 ((i:Int) + 1) = ((i + 1:Nat):Int):=by rw [jg (by omega) (by omega)]; omega
   have hcur:(text.take (i + 1)).drop fr = (text.take i).drop fr ++ [text[i]]:=by
    rw [List.take_add_one, hc, List.drop_append_of_le_length (by rw [List.length_take]; omega)]
    rfl
   rw [List.drop_eq_getElem_cons hlt, splF] at hN ⊢
   by_cases c:text[i] = 10
   ·have c':(text[i].toNat:Int) = 10:=by rw [c]; rfl
    rw [if_pos c] at hN ⊢
    simp only [List.length_cons] at hN
    obtain ⟨s1, h1, e1, B1, k1⟩:=ln_add B ((text.take i).drop fr ++ [text[i]]) (by omega)
    have x1:Ext h₀ h1:=⟨Nat.le_trans x.1 k1.1, fun j hj=>by rw [k1.2 j hj, x.2 j hj]⟩
    have hz:(text.take (i + 1)).drop (i + 1) = []:=List.drop_of_length_le (by rw [List.length_take]; omega)
    obtain ⟨s2, h2, x2, B2, e2⟩:=ih (i + 1) (i + 1) h1 s1 _ (by omega) (by omega) (Nat.le_refl _) x1 B1 (by rw [hz]; simp; omega)
    rw [hz] at B2
    refine ⟨s2, h2, x2, by simpa using B2, fun α kx=>?_⟩
    rw [qc.u4.l, qc.u3.f, dT (by omega:(i:Int) < (text.length:Int)), cond_true, jt rfl hc, dT c', cond_true, hw, zci (n:=fr) (m:=i + 1) rfl rfl (by omega) (by omega), hcur]
    refine (e1 α _).trans ?_
    exact e2 α kx
   ·have c':¬ (text[i].toNat:Int) = 10:=fun e=>c ((byte_eq (n:=10) (by decide)).1 e)
    rw [if_neg c] at hN ⊢
    rw [← hcur] at hN ⊢
    obtain ⟨s2, h2, x2, B2, e2⟩:=ih (i + 1) fr h s ls (by omega) (by omega) (by omega) x B hN
    refine ⟨s2, h2, x2, B2, fun α kx=>?_⟩
    rw [qc.u4.l, qc.u3.f, dT (by omega:(i:Int) < (text.length:Int)), cond_true, jt rfl hc, dF c', cond_false, hw]
    exact e2 α kx
  ·have:i = text.length:=by omega
   subst this
   refine ⟨s, h, x, by rw [List.drop_length, splF, List.append_nil]; exact B, fun α kx=>?_⟩
   rw [qc.u4.l, qc.u3.f, dF (by omega), cond_false]
theorem zlc {s:Sl} {ls:List (List UInt8)} (r:Rd h s 1 (ls.flatMap cS)) {x:Int} {i:Nat} {v:List UInt8} (hx:x = (i:Int)) (hv:ls[i]? = some v) (K:List UInt8->M α):idxSl s x 1 (fun a=>ldStr (a.add 0) K) h = K v h:=by
 have hlt:=zbf hv
 rw [zff r hx (by rw [slen' r]; exact hlt), zjs]
 refine r.ldStr (n:=i * 1 + 0) ?_ K
 rw [zbx (c:=cS) (size:=1) (fun _=>rfl) ls i v 0 hv (by decide)]
 rfl
theorem str_st {s:Sl} {l:List (List UInt8)} (o:Own h s 1 (l.flatMap cS)) {x:Int} {i:Nat} (v:List UInt8) (hx:x = (i:Int)) (hi:i < l.length) :
  ∃ h', (∀ (α:Type) (K:M α), idxSl s x 1 (fun a=>st1 (a.add 0) (.str v) K) h = K h') ∧ Own h' s 1 ((l.set i v).flatMap cS) ∧ h'.next = h.next ∧ ∀ i, i ≠ s.id->h'.get i = h.get i:=by
 obtain ⟨h', e, o', k⟩:=own_st o (n:=i * 1 + 0) (v:=.str v) rfl (by rw [zcq (size:=1) (fun _=>rfl)]; omega)
 refine ⟨h', fun α K=>?_, ?_, k⟩
 ·rw [zff o.rd hx (by rw [slen' o.rd]; exact hi), zjs]
  exact e α K
 ·rw [znh (size:=1) (fun _=>rfl) l i l[i] v 0 _ (List.getElem?_eq_getElem hi) rfl (by decide)] at o'
  exact o'
theorem join_loop (k:Nat) {s:Sl} {ls:List (List UInt8)} (r:Rd h s 1 (ls.flatMap cS)) (hl:ls.length≤1000) (hb:ls.flatten.length≤262144) (a b:Nat) (hM:(if b < a then b else a) < ls.length) :
  ∀ (f i:Nat), i≤ls.length->ls.length - i < f->∀ (α:Type) (kx:List UInt8->Int->M α),
   qc.u10.l k kx f s (a:Int) (b:Int) ((ls.take i).flatten) (((if (if b < a then b else a) < i then (ls.take (if b < a then b else a)).flatten.length else 0):Nat):Int) (i:Int) h = kx ls.flatten ((ls.take (if b < a then b else a)).flatten.length:Nat) h:=by
 have hslen:=slen' r
 have hif:(if (b:Int) < (a:Int) then (b:Int) else (a:Int)) = (((if b < a then b else a):Nat):Int):=by
  by_cases c:b < a
  ·rw [if_pos c, if_pos (by omega)]
  ·rw [if_neg c, if_neg (by omega)]
 generalize (if b < a then b else a) = M at *
 intro f
 induction f with
 | zero=>intro i _ hf; omega
 | succ f ih=>
  intro i hi hf α kx
  by_cases hlt:i < ls.length
  ·have hc:ls[i]? = some ls[i]:=List.getElem?_eq_getElem hlt
   have hw:w64 ((i:Int) + 1) = ((i + 1:Nat):Int):=by rw [jg (by omega) (by omega)]; omega
   have hnext:(ls.take (i + 1)).flatten = (ls.take i).flatten ++ ls[i]:=by
    rw [List.take_add_one, hc, List.flatten_append]; simp
   have hbound:(ls.take i).flatten.length + ls[i].length≤262144:=by
    have h1:ls.flatten = (ls.take (i + 1)).flatten ++ (ls.drop (i + 1)).flatten:=by rw [← List.flatten_append, List.take_append_drop]
    have h2:=congrArg List.length h1
    rw [hnext] at h2
    simp only [List.length_append] at h2
    omega
   by_cases c:i = M
   ·subst c
    rw [qc.u10.l, qc.u9.f, dT (by omega:(i:Int) < (s.len:Int)), cond_true, hif, dT rfl, cond_true, zlc r rfl hc, zhw (by omega), hw, ← hnext]
    have:=ih (i + 1) (by omega) (by omega) α kx
    rw [if_pos (by omega)] at this
    exact this
   ·rw [qc.u10.l, qc.u9.f, dT (by omega:(i:Int) < (s.len:Int)), cond_true, hif, dF (by omega), cond_false, zlc r rfl hc, zhw (by omega), hw, ← hnext]
    have:=ih (i + 1) (by omega) (by omega) α kx
    by_cases d:M < i
    ·rw [if_pos (by omega)] at this
     rw [if_pos d]
     exact this
    ·rw [if_neg (by omega)] at this
     rw [if_neg d]
     exact this
  ·have:i = ls.length:=by omega
   subst this
   rw [qc.u10.l, qc.u9.f, dF (by omega), cond_false, List.take_length, if_pos hM]
end Go.Ab.S8
namespace Go.Ab.S8
variable {α:Type} {h:H}
theorem set_facts {β:Type} {ps:List β} {a b:Nat} {pa pb:β} (ha:ps[a]? = some pa) (hb:ps[b]? = some pb) (hab:a ≠ b) :
  (∀ i, i < min a b->((ps.set a pb).set b pa)[i]? = ps[i]?) ∧ ((ps.set a pb).set b pa)[min a b]? = ps[max a b]? ∧ ∀ p ∈ (ps.set a pb).set b pa, p ∈ ps:=by
 have hal:=(List.getElem?_eq_some_iff.1 ha).1
 have hbl:=(List.getElem?_eq_some_iff.1 hb).1
 refine ⟨fun i hi=>?_, ?_, fun p hp=>?_⟩
 ·rw [List.getElem?_set_ne (by omega), List.getElem?_set_ne (by omega)]
 ·rcases Nat.lt_or_ge a b with c | c
  ·rw [Nat.min_eq_left (by omega), Nat.max_eq_right (by omega), List.getElem?_set_ne (by omega), List.getElem?_set_self hal, hb]
  ·rw [Nat.min_eq_right (by omega), Nat.max_eq_left (by omega), List.getElem?_set_self (by rw [List.length_set]; exact hbl), ha]
 ·rcases List.mem_or_eq_of_mem_set hp with hp | rfl
  ·rcases List.mem_or_eq_of_mem_set hp with hp | rfl
   ·exact hp
   ·exact List.mem_of_getElem? hb
  ·exact List.mem_of_getElem? ha
theorem zmw (k:Nat) (hk:400000≤k) {o p m:Sl} {g:Gm} (r:GmR h o p m g) (hb:GB k g) {c d:Int} (c1:-9223372036854775808≤c) (c2:c≤9223372036854775807) (d1:-9223372036854775808≤d) (d2:d≤9223372036854775807) :
  ∃ h', ∀ (α:Type) (ret:Bool->M α), qc.f (k + 8) o p m c d ret h = ret true h':=by
 have x1:Ext h (h.push (gC o p m)):=(Ext.refl h).push _
 have b1:(h.push (gC o p m)).get h.next = some (gC o p m):=ye _
 have n1:(h.push (gC o p m)).next = h.next + 1:=rfl
 obtain ⟨h2, x2, e2⟩:=shown_run (h:=h.push (gC o p m)) k (by omega)
 obtain ⟨h3, x3, e3⟩:=zkt (k + 1) (r.ext (x1.trans x2)) (hb.mono (by omega)) (by omega)
 have c1':∀ {g:H}, Ext (h.push (gC o p m)) g->g.get h.next = some (gC o p m):=fun x=>by rw [x.2 _ (by omega)]; exact b1
 have start:∀ (α:Type) (ret:Bool->M α), qc.f (k + 8) o p m c d ret h = _:=fun α ret=>by
  rewrite [qc.f]
  unfold qc.u17.f qc.u1.f
  rewrite [jc rfl, e2, g_o' (c1' x2), g_p' (c1' x2), g_m' (c1' x2), e3, Bool.not_true, cond_false]
  exact rfl
 by_cases q1:(zde g).2 = 0
 ·have ok:=zkm.1 q1
  rw [if_pos q1] at start
  have hlen:=(zew ok).1
  obtain ⟨rs, e, hrl, hr⟩:=ok_rows ok
  have nn1:=ok.n1
  have nn2:=ok.n2
  have hr':∀ r ∈ rs, RowOk (rs.length:Nat) r.o r.p r.m:=by rw [hrl]; exact hr
  have hspl:splF [] (zbe g) = topS rs.length :: (jz 0 rs).map zn:=by rw [e]; exact znz (by omega) hr'
  have hpl:=zkh 0 rs
  have B0:LnR h3 h3.next Sl.nil []:=⟨App.nilSl h3 1, fun a ha=>(by cases ha), Nat.le_refl _, fun hh=>absurd rfl hh⟩
  obtain ⟨s, h4, x4, B, eL⟩:=spl_loop (k + 7) hlen c d ⟨h.next, 0⟩ (h₀:=h3) (k + 7) 0 0 h3 Sl.nil [] (Nat.zero_le _) (by omega) (Nat.le_refl _) (Ext.refl h3) B0 (by
   show 0 + (splF [] (zbe g)).length≤1000
   rw [hspl, List.length_cons, List.length_map, hpl]; omega)
  have B:LnR h4 h3.next s (splF [] (zbe g)):=B
  rw [hspl] at B
  generalize hT:topS rs.length = top at B
  have O:=B.own (by simp)
  have hsl:s.len = rs.length + 1:=by rw [slen' O.rd, List.length_cons, List.length_map, hpl]
  have hol:o.len = rs.length:=by rw [ilen r.o, ok.l1]; omega
  obtain ⟨ra, hra, ea⟩:=zmg (k + 6) c1 c2 (show 1≤rs.length by omega) h4
  obtain ⟨rb, hrb, eb⟩:=zmg (k + 6) d1 d2 (show 1≤rs.length by omega) h4
  have x24:=(x2.trans x3).trans x4
  have w1:w64 ((o.len:Int) + 1) = ((rs.length + 1:Nat):Int):=by rw [jg (by omega) (by omega)]; omega
  have w2:w64 ((s.len:Int) - 1) = ((rs.length:Nat):Int):=by rw [jg (by omega) (by omega)]; omega
  have wa:w64 (1 + (ra:Int)) = ((ra + 1:Nat):Int):=by rw [jg (by omega) (by omega)]; omega
  have wb:w64 (1 + (rb:Int)) = ((rb + 1:Nat):Int):=by rw [jg (by omega) (by omega)]; omega
  by_cases hab:ra = rb
  ·refine ⟨h4, fun α ret=>?_⟩
   rw [start, dF (zew ok).2, cond_false]
   unfold qc.u16.f qc.u6.f qc.u2.f qc.u5.f qc.u4.f
   refine (eL α _).trans ?_
   unfold qc.u15.f qc.u7.f
   dsimp only
   rw [g_o (c1' x24), w1, dT (by omega:(s.len:Int) = ((rs.length + 1:Nat):Int)), Bool.not_true, cond_false, w2, ea, eb, wa, wb]
   rw [dT (by omega), cond_true]
  ·obtain ⟨pa, hpa⟩:∃ pa, (jz 0 rs)[ra]? = some pa:=⟨(jz 0 rs)[ra]'(by omega), List.getElem?_eq_getElem _⟩
   obtain ⟨pb, hpb⟩:∃ pb, (jz 0 rs)[rb]? = some pb:=⟨(jz 0 rs)[rb]'(by omega), List.getElem?_eq_getElem _⟩
   obtain ⟨s1, s2, s3⟩:=set_facts hpa hpb hab
   have hva:(top :: (jz 0 rs).map zn)[ra + 1]? = some (zn pa):=by rw [List.getElem?_cons_succ, List.getElem?_map, hpa]; rfl
   have hvb:(top :: (jz 0 rs).map zn)[rb + 1]? = some (zn pb):=by rw [List.getElem?_cons_succ, List.getElem?_map, hpb]; rfl
   obtain ⟨h5, e5, O5, n5, g5⟩:=str_st O (zn pb) (x:=((ra + 1:Nat):Int)) (i:=ra + 1) rfl (by rw [List.length_cons, List.length_map, hpl]; omega)
   obtain ⟨h6, e6, O6, n6, g6⟩:=str_st O5 (zn pa) (x:=((rb + 1:Nat):Int)) (i:=rb + 1) rfl (by rw [List.length_set, List.length_cons, List.length_map, hpl]; omega)
   have hL:((top :: (jz 0 rs).map zn).set (ra + 1) (zn pb)).set (rb + 1) (zn pa) = top :: (((jz 0 rs).set ra pb).set rb pa).map zn:=by
    rw [List.set_cons_succ, List.set_cons_succ, List.map_set, List.map_set]
   rw [hL] at O6
   have hpsl:(((jz 0 rs).set ra pb).set rb pa).length = rs.length:=by rw [List.length_set, List.length_set, hpl]
   generalize hps:((jz 0 rs).set ra pb).set rb pa = ps at *
   have good:∀ p ∈ ps, zja rs.length p:=fun p hp=>zia (by omega) hr' p (s3 p hp)
   have hfl:(top :: ps.map zn).flatten = top ++ ps.flatMap zn:=by rw [List.flatten_cons, List.flatMap_def]
   have hbl:(top :: ps.map zn).flatten.length≤262144:=by
    have a:=gl_len (by omega:rs.length≤200) ps good
    have b:=yq rs.length
    rw [hfl, ← hT]
    unfold topS
    simp only [List.length_append, List.length_cons, List.length_nil]
    omega
   have hMin:(if rb + 1 < ra + 1 then rb + 1 else ra + 1) = min ra rb + 1:=by
    by_cases cc:rb < ra
    ·rw [if_pos (by omega), Nat.min_eq_right (by omega)]
    ·rw [if_neg (by omega), Nat.min_eq_left (by omega)]
   have hltm:min ra rb + 1 < (top :: ps.map zn).length:=by rw [List.length_cons, List.length_map, hpsl]; omega
   have J:=join_loop (k + 7) O6.rd (by rw [List.length_cons, List.length_map, hpsl]; omega) hbl (ra + 1) (rb + 1) (by rw [hMin]; exact hltm) (k + 7) 0 (Nat.zero_le _) (by rw [List.length_cons, List.length_map, hpsl]; omega)
   rw [hMin, if_neg (Nat.not_lt_zero _)] at J
   have hplace:((top :: ps.map zn).take (min ra rb + 1)).flatten = top ++ (ps.take (min ra rb)).flatMap zn:=by
    rw [List.take_succ_cons, List.flatten_cons, ← List.map_take, List.flatMap_def]
   rw [hplace, hfl] at J
   have hp:=swap_err ok e hrl hr (m:=min ra rb) (j:=max ra rb) (by omega) (by omega) hpsl s1 s2 s3
   rw [hT] at hp
   have A7:=zgg (k + 1) (by omega) (top ++ ps.flatMap zn) h6
   rw [hp] at A7
   obtain ⟨i7, h7, e7, x7, hi7, hl7, hg7⟩:=A7
   have x8:Ext h7 (h7.push (gC Sl.nil Sl.nil Sl.nil)):=(Ext.refl h7).push _
   have b8:(h7.push (gC Sl.nil Sl.nil Sl.nil)).get h7.next = some (gC Sl.nil Sl.nil Sl.nil):=ye _
   have n8:(h7.push (gC Sl.nil Sl.nil Sl.nil)).next = h7.next + 1:=rfl
   have f1:=fun (α:Type) (ret:Int->Int->M α)=>zks (k + 5) ret (h7.push (gC Sl.nil Sl.nil Sl.nil)) i7 ((top ++ (ps.take (min ra rb)).flatMap zn).length:Nat) 8 (by have:=x8.1; omega) (by rw [x8.2 _ hl7]; exact hg7)
   have b9:((h7.push (gC Sl.nil Sl.nil Sl.nil)).push (.cells [.ptr (some ⟨i7, 0⟩)] true)).get h7.next = some (gC Sl.nil Sl.nil Sl.nil):=by rw [zt, if_neg (by rw [zk]; omega)]; exact b8
   refine ⟨(h7.push (gC Sl.nil Sl.nil Sl.nil)).push (.cells [.ptr (some ⟨i7, 0⟩)] true), fun α ret=>?_⟩
   have e10:∀ (v:V) (t:Nat) (K:Bool->M α), asNil (.iface t v) K = K false:=fun _ _ _=>rfl
   rw [start, dF (zew ok).2, cond_false]
   unfold qc.u16.f qc.u6.f qc.u2.f qc.u5.f qc.u4.f
   refine (eL α _).trans ?_
   unfold qc.u15.f qc.u7.f
   dsimp only
   rw [g_o (c1' x24), w1, dT (by omega:(s.len:Int) = ((rs.length + 1:Nat):Int)), Bool.not_true, cond_false, w2, ea, eb, wa, wb]
   rw [dF (by omega), cond_false, zlc O.rd rfl hvb, zlc O.rd rfl hva, e5, e6]
   unfold qc.u14.f qc.u12.f qc.u8.f qc.u11.f qc.u10.f
   refine (J α _).trans ?_
   unfold qc.u13.f
   dsimp only
   rw [e7, g_new, f1, e10, Bool.not_false, cond_true, dT rfl, cond_true, dT rfl, cond_true, g_o b9]
   rfl
 ·refine ⟨h3, fun α ret=>?_⟩
  rw [start, if_neg q1, dT rfl, cond_true]
theorem PagesSwapped_law {o p m:Sl} {g:Gm} (r:GmR h o p m g) (hb:GN g) (c d:Int) (w:(Lit.int .i64 c).wf = true) (v:(Lit.int .i64 d).wf = true):∃ k h', ∀ (α:Type) (ret:Bool->M α), qc.f (k + 1) o p m c d ret h = ret true h':=by
 have hw:-9223372036854775808≤c ∧ c≤9223372036854775807:=by
  simp only [Lit.wf, IntKind.min, IntKind.max, IntKind.signed, IntKind.bits] at w
  simpa using w
 have hv:-9223372036854775808≤d ∧ d≤9223372036854775807:=by
  simp only [Lit.wf, IntKind.min, IntKind.max, IntKind.signed, IntKind.bits] at v
  simpa using v
 obtain ⟨h', e⟩:=zmw (400000 + (g.ow.length + g.pr.length + g.mv.length + (g.mv.map List.length).sum + 1)) (by omega) r (hb.gb.mono (by omega)) hw.1 hw.2 hv.1 hv.2
 exact ⟨_, h', e⟩
end Go.Ab.S8
