import Derived.Test.YtjohdighlhoofaaDoorS8l2
set_option linter.unusedVariables false
set_option linter.unusedSimpArgs false
namespace Go.Ab.S8
structure Fine (n:Int) (s:St):Prop where
 l:∀ t ∈ s.l, 0≤t.pos ∧ t.pos≤n
 f:∀ m e, s.f = some (m, e)->0≤m ∧ m≤n ∧ e ≠ 0
 ends:Ends s.l
theorem Fine.hd {n:Int} {s:St} (h:Fine n s):0≤s.hd.pos ∧ s.hd.pos≤n:=h.l _ (List.mem_of_getElem? h.ends.hd)
theorem Fine.fail {n:Int} {s:St} (h:Fine n s) {e:Int} (he:e ≠ 0):Fine n (zap e s):=by
 cases hf:s.f with
 | some fe=>rw [zcc hf]; exact h
 | none=>rw [zdl hf]; exact ⟨h.l, fun m e' hh=>by cases hh; exact ⟨h.hd.1, h.hd.2, he⟩, h.ends⟩
theorem Fine.take {n:Int} {s:St} (h:Fine n s) (kind:Int) (text:List UInt8):Fine n (jj kind text s).2:=by
 cases hf:s.f with
 | some fe=>rw [zak hf]; exact h
 | none=>
  by_cases c:s.hd.kind = kind ∧ (text = [] ∨ s.hd.text = text)
  ·rw [zbx hf c]
   by_cases c0:kind = 0
   ·rw [if_pos c0]; exact h
   ·rw [if_neg c0]
    have hk:s.hd.kind ≠ 0:=by omega
    exact ⟨fun t ht=>h.l t (List.mem_of_mem_tail ht), fun m e hh=>(by cases hh), (h.ends.tailS hk).1⟩
  ·rw [zcg hf c]
   exact h.fail (by split <;> decide)
theorem Fine.num {n:Int} {s:St} (h:Fine n s) (a b:Int) {e:Int} (he:e ≠ 0):Fine n (numP a b e s).2:=by
 unfold numP
 split
 ·exact (h.fail he).take 4 []
 ·exact h.take 4 []
theorem zjq:∀ {l:List Tok} {t:Tok}, t ∈ zaw l->t ∈ l
 | [], _, h=>h
 | u :: r, t, h=>by
  rw [zaw] at h
  split at h
  ·exact List.mem_cons_of_mem _ (zjq h)
  ·exact h
theorem Fine.blank {n:Int} {s:St} (h:Fine n s):Fine n (zj s):=⟨fun t ht=>h.l t (zjq ht), h.f, h.ends.blank⟩
theorem Fine.endP {n:Int} {s:St} (h:Fine n s):Fine n (endP s):=by
 unfold S8.endP
 split
 ·exact h
 ·exact h.take 1 []
theorem Fine.mvs {n:Int} (k:Int):∀ (f:Nat) (acc:List Int) (last:Int) (s:St), Fine n s->Fine n (mvsP k f acc last s).2
 | 0, _, _, _, h=>h
 | f + 1, acc, last, s, h=>by
  rw [mvsP]
  split
  ·exact Fine.mvs k f _ _ _ (h.num _ _ (by decide))
  ·exact h
theorem Fine.moves {n:Int} {s:St} (h:Fine n s) (k:Int):Fine n (zaf k s).2:=by
 unfold zaf zeh
 dsimp only
 split
 ·exact (Fine.mvs k _ _ _ _ h).fail (by decide)
 ·exact Fine.mvs k _ _ _ _ h
theorem Fine.row {n:Int} {s:St} (h:Fine n s) (k i:Int):Fine n (rowP k i s).2:=
 ((((((h.blank.num i i (by decide)).num 0 1 (by decide)).num 0 7 (by decide)).take 5 [58]).moves k)).endP
theorem Fine.rows {n:Int} (k:Int):∀ (c:Nat) (i:Int) (g:Gm) (s:St), Fine n s->Fine n (yq k c i g s).2
 | 0, _, _, _, h=>h
 | c + 1, i, g, s, h=>by
  rw [yq]
  split
  ·exact Fine.rows k c _ _ _ (h.row k i)
  ·exact h
theorem Sc.pos {text:List UInt8} {n m:Nat} {ts:List Tok} (s:Sc text n ts m):∀ t ∈ ts, 0≤t.pos ∧ t.pos≤text.length:=by
 induction s with
 | nil _=>intro t ht; cases ht
 | blank _ _ _ ih=>exact ih
 | rem _ _ _ _ ih=>exact ih
 | tok hc _ _ he _ ih=>
  intro t ht
  rcases List.mem_cons.1 ht with rfl | ht
  ·rw [zmt]; have:=zbm hc; omega
  ·exact ih t ht
theorem f_fail {e:Int} {s:St} (h:(zap e s).f = none):False:=by
 cases hf:s.f with
 | some fe=>rw [zcc hf, hf] at h; cases h
 | none=>rw [zdl hf] at h; cases h
theorem zgz {kind:Int} {text:List UInt8} {s:St} (h:(jj kind text s).2.f = none):s.f = none ∧ s.hd.kind = kind ∧ (text = [] ∨ s.hd.text = text) ∧ jj kind text s = (s.hd.num, if kind = 0 then s else ⟨s.l.tail, none⟩):=by
 cases hf:s.f with
 | some fe=>rw [zak hf, hf] at h; cases h
 | none=>
  by_cases c:s.hd.kind = kind ∧ (text = [] ∨ s.hd.text = text)
  ·exact ⟨rfl, c.1, c.2, zbx hf c⟩
  ·rw [zcg hf c] at h; exact (f_fail h).elim
theorem f_num {a b e:Int} {s:St} (h:(numP a b e s).2.f = none):s.f = none ∧ s.hd.kind = 4 ∧ a≤s.hd.num ∧ s.hd.num≤b ∧ numP a b e s = (s.hd.num, ⟨s.l.tail, none⟩):=by
 unfold numP at h ⊢
 by_cases c:s.hd.kind = 4 ∧ (s.hd.num < a ∨ b < s.hd.num)
 ·rw [if_pos c] at h
  exact (f_fail (zgz h).1).elim
 ·rw [if_neg c] at h ⊢
  obtain ⟨h1, h2, _, h4⟩:=zgz h
  exact ⟨h1, h2, by omega, by omega, by rw [h4, if_neg (by decide)]⟩
theorem f_end {s:St} (h:(endP s).f = none):s.f = none ∧ ((s.hd.kind = 0 ∧ endP s = s) ∨ (s.hd.kind = 1 ∧ endP s = ⟨s.l.tail, none⟩)):=by
 unfold endP at h ⊢
 by_cases c:s.hd.kind = 0
 ·rw [if_pos c] at h ⊢; exact ⟨h, .inl ⟨c, rfl⟩⟩
 ·rw [if_neg c] at h ⊢
  obtain ⟨h1, h2, _, h4⟩:=zgz h
  exact ⟨h1, .inr ⟨h2, by rw [h4, if_neg (by decide)]⟩⟩
theorem zbt:∀ l:List Tok, ∃ b, l = b ++ zaw l ∧ ∀ t ∈ b, t.kind = 1
 | []=>⟨[], rfl, fun t ht=>(by cases ht)⟩
 | t :: r=>by
  rw [zaw]
  by_cases c:t.kind = 1
  ·rw [if_pos c]
   obtain ⟨b, h1, h2⟩:=zbt r
   exact ⟨t :: b, by rw [List.cons_append, ← h1], fun u hu=>by
    rcases List.mem_cons.1 hu with rfl | hu
    ·exact c
    ·exact h2 u hu⟩
  ·rw [if_neg c]; exact ⟨[], rfl, fun t ht=>(by cases ht)⟩
theorem f_mvs (n:Int):∀ (f:Nat) (acc:List Int) (last:Int) (s:St), Ends s.l->s.mu < f->(mvsP n f acc last s).2.f = none ->
  ∃ ms, s.f = none ∧ s.l = ms ++ (mvsP n f acc last s).2.l ∧ (∀ t ∈ ms, t.kind = 4) ∧ (mvsP n f acc last s).1 = acc ++ ms.map Tok.num ∧ zae n last (ms.map Tok.num) = true ∧ (mvsP n f acc last s).2.hd.kind ≠ 4
 | 0, acc, last, s, _, hmu, _=>by omega
 | f + 1, acc, last, s, he, hmu, h=>by
  rw [mvsP] at h ⊢
  by_cases c:s.f.isNone ∧ s.hd.kind = 4
  ·rw [if_pos c] at h ⊢
   have hf:s.f = none:=by cases hs:s.f with | none=>rfl | some e=>rw [hs] at c; exact absurd c.1 (by simp)
   have hm:=num_mu he hf c.2 (last + 1) (n - 1) 16
   obtain ⟨ms, h1, h2, h3, h4, h5, h6⟩:=f_mvs n f _ _ _ (he.num _ _ _) (by omega) h
   obtain ⟨_, k2, k3, k4, k5⟩:=f_num h1
   rw [k5] at h2 h4 h5 h6 ⊢
   dsimp only at h2 h4 h5 h6 ⊢
   have hl:=(he.tailS (by omega)).2
   refine ⟨s.hd :: ms, hf, ?_, fun t ht=>?_, ?_, ?_, h6⟩
   ·rw [List.cons_append, ← h2]; exact hl
   ·rcases List.mem_cons.1 ht with rfl | ht
    ·exact k2
    ·exact h3 t ht
   ·rw [h4]; simp
   ·rw [List.map_cons, zji (by omega) (by omega)]; exact h5
  ·rw [if_neg c] at h ⊢
   exact ⟨[], h, rfl, fun t ht=>(by cases ht), by simp, rfl, fun h4=>c ⟨by rw [h]; rfl, h4⟩⟩
structure RowL (n i:Int) (l l':List Tok) (r:Rw):Prop where
 ex:∃ b ti to' tp tc ms rest, l = b ++ (ti :: to' :: tp :: tc :: (ms ++ rest)) ∧ (∀ t ∈ b, t.kind = 1) ∧ (ti.kind = 4 ∧ ti.num = i) ∧ (to'.kind = 4 ∧ to'.num = r.o) ∧ (tp.kind = 4 ∧ tp.num = r.p) ∧ (tc.kind = 5 ∧ tc.text = [58]) ∧ (∀ t ∈ ms, t.kind = 4) ∧ ms.map Tok.num = r.m ∧
  ((rest = l' ∧ ∃ e x, rest = e :: x ∧ e.kind = 0) ∨ ∃ e, rest = e :: l' ∧ e.kind = 1)
 ok:RowOk n r.o r.p r.m
theorem f_row {n i:Int} {s:St} (he:Ends s.l) (h:(rowP n i s).2.f = none):s.f = none ∧ RowL n i s.l (rowP n i s).2.l (rowP n i s).1 ∧ Ends (rowP n i s).2.l:=by
 unfold rowP at h ⊢
 dsimp only at h ⊢
 have hE:Ends (endP (zaf n (jj 5 [58] (numP 0 7 15 (numP 0 1 14 (numP i i 8 (zj s)).2).2).2).2).2).l:=by
  apply Ends.endP
  unfold zaf zeh
  dsimp only
  have key:∀ (f:Nat) (acc:List Int) (last:Int) (s:St), Ends s.l->Ends (mvsP n f acc last s).2.l:=by
   intro f
   induction f with
   | zero=>intro acc last s h; exact h
   | succ f ih=>
    intro acc last s h
    rw [mvsP]
    split
    ·exact ih _ _ _ (h.num _ _ _)
    ·exact h
  have h5:Ends (jj 5 [58] (numP 0 7 15 (numP 0 1 14 (numP i i 8 (zj s)).2).2).2).2.l:=((((he.blank:Ends (zj s).l).num i i 8).num 0 1 14).num 0 7 15).take 5 [58]
  split
  ·rw [zev]; exact key _ _ _ _ h5
  ·exact key _ _ _ _ h5
 have e1:Ends (zj s).l:=he.blank
 have e2:=e1.num i i 8
 have e3:=e2.num 0 1 14
 have e4:=e3.num 0 7 15
 have e5:=e4.take 5 [58]
 obtain ⟨m1, m2⟩:=f_end h
 -- not stuck
 have m3:¬ ((mvsP n ((jj 5 [58] (numP 0 7 15 (numP 0 1 14 (numP i i 8 (zj s)).2).2).2).2.l.length + 2) [] (-1) (jj 5 [58] (numP 0 7 15 (numP 0 1 14 (numP i i 8 (zj s)).2).2).2).2).1 = [] ∧ ((mvsP n ((jj 5 [58] (numP 0 7 15 (numP 0 1 14 (numP i i 8 (zj s)).2).2).2).2.l.length + 2) [] (-1) (jj 5 [58] (numP 0 7 15 (numP 0 1 14 (numP i i 8 (zj s)).2).2).2).2).2.hd.kind = 1 ∨ (mvsP n ((jj 5 [58] (numP 0 7 15 (numP 0 1 14 (numP i i 8 (zj s)).2).2).2).2.l.length + 2) [] (-1) (jj 5 [58] (numP 0 7 15 (numP 0 1 14 (numP i i 8 (zj s)).2).2).2).2).2.hd.kind = 0)):=by
  intro c
  unfold zaf zeh at m1
  dsimp only at m1
  rw [if_pos c] at m1
  exact f_fail m1
 have m4:zaf n (jj 5 [58] (numP 0 7 15 (numP 0 1 14 (numP i i 8 (zj s)).2).2).2).2 = mvsP n ((jj 5 [58] (numP 0 7 15 (numP 0 1 14 (numP i i 8 (zj s)).2).2).2).2.l.length + 2) [] (-1) (jj 5 [58] (numP 0 7 15 (numP 0 1 14 (numP i i 8 (zj s)).2).2).2).2:=by
  unfold zaf zeh
  rw [if_neg m3]
 rw [m4] at m1 m2 ⊢
 obtain ⟨ms, a1, a2, a3, a4, a5, a6⟩:=f_mvs n _ _ _ _ e5 (by unfold St.mu; split <;> omega) m1
 obtain ⟨b1, b2, b3, b4⟩:=zgz a1
 obtain ⟨c1, c2, c3, c4, c5⟩:=f_num b1
 obtain ⟨d1, d2, d3, d4, d5⟩:=f_num c1
 obtain ⟨g1, g2, g3, g4, g5⟩:=f_num d1
 obtain ⟨b, hb1, hb2⟩:=zbt s.l
 refine ⟨g1, ⟨⟨b, (zj s).hd, (numP i i 8 (zj s)).2.hd, (numP 0 1 14 (numP i i 8 (zj s)).2).2.hd, (numP 0 7 15 (numP 0 1 14 (numP i i 8 (zj s)).2).2).2.hd, ms, (mvsP n ((jj 5 [58] (numP 0 7 15 (numP 0 1 14 (numP i i 8 (zj s)).2).2).2).2.l.length + 2) [] (-1) (jj 5 [58] (numP 0 7 15 (numP 0 1 14 (numP i i 8 (zj s)).2).2).2).2).2.l,
  ?_, hb2, ⟨g2, by omega⟩, ⟨d2, by rw [d5]⟩, ⟨c2, by rw [c5]⟩, ⟨b2, b3.resolve_left (by simp)⟩, a3, by rw [a4]; rfl, ?_⟩, ?_⟩, ?_⟩
 ·have k1:=(e1.tailS (by omega)).2
  have k2:=(e2.tailS (by omega)).2
  have k3:=(e3.tailS (by omega)).2
  have k4:=(e4.tailS (by omega)).2
  have t1:(numP i i 8 (zj s)).2.l = (zj s).l.tail:=by rw [g5]
  have t2:(numP 0 1 14 (numP i i 8 (zj s)).2).2.l = (numP i i 8 (zj s)).2.l.tail:=by rw [d5]
  have t3:(numP 0 7 15 (numP 0 1 14 (numP i i 8 (zj s)).2).2).2.l = (numP 0 1 14 (numP i i 8 (zj s)).2).2.l.tail:=by rw [c5]
  have t4:(jj 5 [58] (numP 0 7 15 (numP 0 1 14 (numP i i 8 (zj s)).2).2).2).2.l = (numP 0 7 15 (numP 0 1 14 (numP i i 8 (zj s)).2).2).2.l.tail:=by rw [b4, if_neg (by decide)]
  rw [← a2, t4, ← k4, t3, ← k3, t2, ← k2, t1, ← k1]
  exact hb1
 ·have hEm:=e5
  have key:=f_mvs
  have hne:Ends (mvsP n ((jj 5 [58] (numP 0 7 15 (numP 0 1 14 (numP i i 8 (zj s)).2).2).2).2.l.length + 2) [] (-1) (jj 5 [58] (numP 0 7 15 (numP 0 1 14 (numP i i 8 (zj s)).2).2).2).2).2.l:=by
   have k2:∀ (f:Nat) (acc:List Int) (last:Int) (s:St), Ends s.l->Ends (mvsP n f acc last s).2.l:=by
    intro f
    induction f with
    | zero=>intro acc last s h; exact h
    | succ f ih=>
     intro acc last s h
     rw [mvsP]
     split
     ·exact ih _ _ _ (h.num _ _ _)
     ·exact h
   exact k2 _ _ _ _ e5
  rcases m2 with ⟨k0, k1⟩ | ⟨k0, k1⟩
  ·obtain ⟨t, r, hl⟩:=hne.ne
   refine .inl ⟨by rw [k1], t, r, hl, ?_⟩
   unfold St.hd at k0
   rw [hl] at k0
   exact k0
  ·refine .inr ⟨_, ?_, k0⟩
   rw [k1]
   exact (hne.tailS (by omega)).2
 ·refine ⟨⟨by rw [d5]; exact d3, by rw [d5]; exact d4⟩, ⟨by rw [c5]; exact c3, by rw [c5]; exact c4⟩, fun hnil=>?_, by rw [a4]; exact a5⟩
  apply m3
  refine ⟨hnil, ?_⟩
  rcases m2 with ⟨k0, _⟩ | ⟨k0, _⟩
  ·exact .inr k0
  ·exact .inl k0
 ·rw [m4] at hE; exact hE
end Go.Ab.S8
namespace Go.Ab.S8
inductive RowsL (n:Int):Int->List Tok->List Rw->List Tok->Prop
 | nil {i:Int} {l:List Tok}:RowsL n i l [] l
 | cons {i:Int} {l l' l'':List Tok} {r:Rw} {rs:List Rw}:RowL n i l l' r->RowsL n (i + 1) l' rs l''->RowsL n i l (r :: rs) l''
theorem f_rows {n:Int}:∀ (c:Nat) (i:Int) (g:Gm) (s:St), Ends s.l->(yq n c i g s).2.f = none ->
  ∃ rs, rs.length = c ∧ RowsL n i s.l rs (yq n c i g s).2.l ∧ (yq n c i g s).1 = rs.foldl Gm.add g ∧ s.f = none ∧ Ends (yq n c i g s).2.l
 | 0, i, g, s, he, h=>⟨[], rfl, .nil, rfl, h, he⟩
 | c + 1, i, g, s, he, h=>by
  rw [yq] at h ⊢
  cases hf:s.f with
  | some fe=>rw [hf, if_neg (by simp)] at h; rw [hf] at h; cases h
  | none=>
   rw [hf, if_pos (show (none:Option (Int × Int)).isNone = true from rfl)] at h
   rw [if_pos (show (none:Option (Int × Int)).isNone = true from rfl)]
   have key:=f_rows (n:=n) c (i + 1) (g.add (rowP n i s).1) (rowP n i s).2
   have hrow:(rowP n i s).2.f = none->_:=f_row (n:=n) (i:=i) he
   have hE:Ends (rowP n i s).2.l ∨ ¬ Ends (rowP n i s).2.l:=Classical.em _
   have hfn:(rowP n i s).2.f = none:=by
    cases hq:(rowP n i s).2.f with
    | none=>rfl
    | some fe=>
     cases c with
     | zero=>rw [yq] at h; rw [hq] at h; cases h
     | succ c=>rw [yq, hq, if_neg (by simp)] at h; rw [hq] at h; cases h
   obtain ⟨_, R, E'⟩:=hrow hfn
   obtain ⟨rs, h1, h2, h3, h4, h5⟩:=key E' h
   exact ⟨(rowP n i s).1 :: rs, by simp [h1], .cons R h2, by rw [h3]; rfl, rfl, h5⟩
def zfe (rs:List Rw):Gm:=⟨rs.map Rw.o, rs.map Rw.p, rs.map Rw.m⟩
theorem zmw:∀ (rs:List Rw) (g:Gm), rs.foldl Gm.add g = ⟨g.ow ++ rs.map Rw.o, g.pr ++ rs.map Rw.p, g.mv ++ rs.map Rw.m⟩
 | [], g=>by simp
 | r :: rs, g=>by rw [List.foldl_cons, zmw rs]; simp [Gm.add]
structure PageL (ts:List Tok) (g:Gm):Prop where
 ex:∃ b tg tn rest l1 rs l2 e, ts = b ++ (tg :: tn :: rest) ∧ (∀ t ∈ b, t.kind = 1) ∧ (tg.kind = 2 ∧ tg.text = [103, 97, 109, 101]) ∧ (tn.kind = 4 ∧ tn.num = (rs.length:Int)) ∧ (1≤rs.length ∧ rs.length≤200) ∧
  ((rest = l1 ∧ ∃ e x, rest = e :: x ∧ e.kind = 0) ∨ ∃ e, rest = e :: l1 ∧ e.kind = 1) ∧ RowsL (rs.length:Int) 0 l1 rs l2 ∧ g = zfe rs ∧ (∃ b', l2 = b' ++ [e] ∧ ∀ t ∈ b', t.kind = 1) ∧ e.kind = 0
theorem f_page {ts:List Tok} {g:Gm} (he:Ends ts) (h:pageP ts = .ok g):PageL ts g:=by
 unfold pageP zgj at h
 split at h
 ·rename_i hf
  cases h
  obtain ⟨a1, a2, _, _⟩:=zgz hf
  have hE0:Ends (⟨ts, none⟩:St).l:=he
  have e1:Ends (zj ⟨ts, none⟩).l:=hE0.blank
  have e2:=e1.take 2 [103, 97, 109, 101]
  have e3:=e2.num 1 200 10
  have hEh:Ends (jm ⟨ts, none⟩).2.l:=e3.endP
  obtain ⟨rs, r1, r2, r3, r4, r5⟩:=f_rows (jm ⟨ts, none⟩).1.toNat 0 ⟨[], [], []⟩ (jm ⟨ts, none⟩).2 hEh (by show (yq _ _ _ _ _).2.f = none; exact a1)
  unfold jm at r4
  dsimp only at r4
  obtain ⟨b1, b2⟩:=f_end r4
  obtain ⟨c1, c2, c3, c4, c5⟩:=f_num b1
  obtain ⟨d1, d2, d3, d4⟩:=zgz c1
  have hhead:(jm ⟨ts, none⟩).1 = (jj 2 [103, 97, 109, 101] (zj ⟨ts, none⟩)).2.hd.num:=by
   show (numP 1 200 10 (jj 2 [103, 97, 109, 101] (zj ⟨ts, none⟩)).2).1 = _
   rw [c5]
  have hN:(jm ⟨ts, none⟩).1 = (rs.length:Int):=by rw [r1]; omega
  obtain ⟨b, hb1, hb2⟩:=zbt ts
  have k1:=(e1.tailS (by omega)).2
  have k2:=(e2.tailS (by omega)).2
  have t1:(jj 2 [103, 97, 109, 101] (zj ⟨ts, none⟩)).2.l = (zj ⟨ts, none⟩).l.tail:=by rw [d4, if_neg (by decide)]
  have t2:(numP 1 200 10 (jj 2 [103, 97, 109, 101] (zj ⟨ts, none⟩)).2).2.l = (jj 2 [103, 97, 109, 101] (zj ⟨ts, none⟩)).2.l.tail:=by rw [c5]
  obtain ⟨b', hb1', hb2'⟩:=zbt (yq (jm ⟨ts, none⟩).1 (jm ⟨ts, none⟩).1.toNat 0 ⟨[], [], []⟩ (jm ⟨ts, none⟩).2).2.l
  have r5':=r5.blank
  -- the last word
  have hlast:∃ e, zaw (yq (jm ⟨ts, none⟩).1 (jm ⟨ts, none⟩).1.toNat 0 ⟨[], [], []⟩ (jm ⟨ts, none⟩).2).2.l = [e] ∧ e.kind = 0:=by
   obtain ⟨r, e, h1, h2, h3⟩:=r5'
   cases r with
   | nil=>exact ⟨e, h1, h2⟩
   | cons t r=>
    exfalso
    have:t.kind = 0:=by
     have a2':(zj (yq (jm ⟨ts, none⟩).1 (jm ⟨ts, none⟩).1.toNat 0 ⟨[], [], []⟩ (jm ⟨ts, none⟩).2).2).hd.kind = 0:=a2
     unfold zj St.hd at a2'
     dsimp only at a2'
     rw [h1] at a2'
     exact a2'
    exact h3 t List.mem_cons_self this
  obtain ⟨e, he1, he2⟩:=hlast
  refine ⟨b, (zj ⟨ts, none⟩).hd, (jj 2 [103, 97, 109, 101] (zj ⟨ts, none⟩)).2.hd, (numP 1 200 10 (jj 2 [103, 97, 109, 101] (zj ⟨ts, none⟩)).2).2.l, (jm ⟨ts, none⟩).2.l, rs, _, e, ?_, hb2, ⟨d2, d3.resolve_left (by simp)⟩, ⟨c2, by rw [← hhead, hN]⟩, ⟨by omega, by omega⟩, ?_, by rw [hN] at r2; exact r2, by rw [r3, zmw]; rfl, ⟨b', by rw [he1, hN] at hb1'; exact hb1', hb2'⟩, he2⟩
  ·rw [t2, ← k2, t1, ← k1]; exact hb1
  ·show (_ = (endP (numP 1 200 10 (jj 2 [103, 97, 109, 101] (zj ⟨ts, none⟩)).2).2).l ∧ _) ∨ _
   rcases b2 with ⟨k0, kk⟩ | ⟨k0, kk⟩
   ·obtain ⟨t, r, hl⟩:=e3.ne
    refine .inl ⟨by rw [kk], t, r, hl, ?_⟩
    unfold St.hd at k0
    rw [hl] at k0
    exact k0
   ·refine .inr ⟨_, ?_, k0⟩
    show _ = _ :: (endP (numP 1 200 10 (jj 2 [103, 97, 109, 101] (zj ⟨ts, none⟩)).2).2).l
    rw [kk]
    exact (e3.tailS (by omega)).2
 ·cases h
theorem RowsL.rows {n:Int} {i:Int} {l l':List Tok} {rs:List Rw} (h:RowsL n i l rs l'):∀ r ∈ rs, RowOk n r.o r.p r.m:=by
 induction h with
 | nil=>intro r hr; cases hr
 | cons R _ ih=>
  intro r hr
  rcases List.mem_cons.1 hr with rfl | hr
  ·exact R.ok
  ·exact ih r hr
theorem PageL.ok {ts:List Tok} {g:Gm} (h:PageL ts g):Ok g:=by
 obtain ⟨b, tg, tn, rest, l1, rs, l2, e, _, _, _, _, h1, _, h2, rfl, _⟩:=h.ex
 refine ⟨by simp [zfe], by simp [zfe], by simpa [zfe] using h1.1, by simpa [zfe] using h1.2, fun i o p l e1 e2 e3=>?_⟩
 simp only [zfe, List.getElem?_map, Option.map_eq_some_iff] at e1 e2 e3
 obtain ⟨r, hr, rfl⟩:=e1
 obtain ⟨r2, hr2, rfl⟩:=e2
 obtain ⟨r3, hr3, rfl⟩:=e3
 rw [hr] at hr2 hr3
 cases hr2; cases hr3
 have:=h2.rows r (List.mem_of_getElem? hr)
 simpa [zfe] using this
theorem zoe {text:List UInt8} {g:Gm} (h:zcs text = .ok g):∃ ts, zcp text = .ok ts ∧ PageL ts g:=by
 unfold zcs at h
 cases hs:zcp text with
 | error me=>obtain ⟨m, e⟩:=me; rw [hs] at h; cases h
 | ok ts=>rw [hs] at h; exact ⟨ts, rfl, f_page (zgy hs).1 h⟩
theorem parse_ok {text:List UInt8} {g:Gm} (h:zcs text = .ok g):Ok g:=by
 obtain ⟨ts, _, hp⟩:=zoe h
 exact hp.ok
theorem Ok.short {g:Gm} (h:Ok g):∀ l ∈ g.mv, l.length≤200:=by
 intro l hl
 obtain ⟨i, hi⟩:=List.getElem?_of_mem hl
 have hlt:=zdj hi
 have hlo:i < g.ow.length:=by rw [h.l1]; exact hlt
 have hlp:i < g.pr.length:=by rw [h.l2]; exact hlt
 have R:=h.row i g.ow[i] g.pr[i] l (List.getElem?_eq_getElem hlo) (List.getElem?_eq_getElem hlp) hi
 have:=zdm (by have:=h.n1; omega) R.m
 have:=h.n2
 omega
theorem Ok.gb {g:Gm} (h:Ok g):GB 201 g:=
 ⟨⟨by have:=h.l1; have:=h.n2; omega, by have:=h.l1; have:=h.n2; omega⟩, ⟨by have:=h.l2; have:=h.n2; omega, by have:=h.l2; have:=h.n2; omega⟩, ⟨by have:=h.n2; omega, by have:=h.n2; omega⟩, fun l hl=>⟨by have:=h.short l hl; omega, by have:=h.short l hl; omega⟩⟩
end Go.Ab.S8
namespace Go.Ab.S8
variable {α:Type} {h:H}
def gNil:Gm:=⟨[], [], []⟩
theorem zma (h:H):GmR h Sl.nil Sl.nil Sl.nil gNil:=⟨Rd.nilSl h 1, Rd.nilSl h 1, [], Rd.nilSl h 1, rfl, fun i r l hi=>(by simp at hi)⟩
theorem gb_nil:GB 1 gNil:=⟨⟨by decide, by decide⟩, ⟨by decide, by decide⟩, ⟨by decide, by decide⟩, fun l hl=>by simp [gNil] at hl⟩
theorem BO.ext {h':H} {b q3:Nat} {o p m:Sl} {rows:List Sl} {g:Gm} (B:BO h b q3 o p m rows g) (x:Ext h h'):BO h' b q3 o p m rows g:=
 B.keep x.1 (x.2 _ (by have:=B.lt; have:=B.nx; omega)) fun i hi=>x.2 i (B.lti i hi)
theorem BO.gmk {h':H} {b q3:Nat} {o p m:Sl} {rows:List Sl} {g:Gm} (B:BO h b q3 o p m rows g) (hn:h.next≤h'.next) (hg:∀ i ∈ idsG o p m rows, h'.get i = h.get i):GmR h' o p m g:=
 ⟨B.ao.rd.keep hn fun a ha=>hg _ (mem_o ha), B.ap.rd.keep hn fun a ha=>hg _ (mem_p ha), rows, B.am.rd.keep hn fun a ha=>hg _ (mem_m ha), B.len, fun i r l h1 h2=>(B.row i r l h1 h2).rd.keep hn fun a ha=>hg _ (zkt (List.mem_of_getElem? h1) ha)⟩
theorem znk (k:Nat) (hk:400000≤k) (text:List UInt8) (h:H):∃ h', ∀ (α:Type) (ret:Bool->M α), qg.f (k + 8) text ret h = ret true h':=by
 obtain ⟨h1, x1, e1⟩:=shown_run (h:=h) k (by omega)
 have A2:=zda (k + 1) (by omega) text h1
 cases hp:zcs text with
 | error e=>
  obtain ⟨at', c⟩:=e
  rw [hp] at A2
  obtain ⟨i2, h2, e2, x2, hi2, hl2, hg2⟩:=A2
  have x3:Ext h2 (h2.push (gC Sl.nil Sl.nil Sl.nil)):=(Ext.refl h2).push _
  have b3:(h2.push (gC Sl.nil Sl.nil Sl.nil)).get h2.next = some (gC Sl.nil Sl.nil Sl.nil):=jv _
  have A4:=zda (k + 1) (by omega) text (h2.push (gC Sl.nil Sl.nil Sl.nil))
  rw [hp] at A4
  obtain ⟨i4, h4, e4, x4, hi4, hl4, hg4⟩:=A4
  have x5:Ext h4 (h4.push (gC Sl.nil Sl.nil Sl.nil)):=(Ext.refl h4).push _
  have b5:(h4.push (gC Sl.nil Sl.nil Sl.nil)).get h4.next = some (gC Sl.nil Sl.nil Sl.nil):=jv _
  have A6:=zix (k + 1) (by omega) text (h4.push (gC Sl.nil Sl.nil Sl.nil))
  rw [hp] at A6
  obtain ⟨h6, e6, x6⟩:=A6
  have x7:Ext h6 (h6.push (gC Sl.nil Sl.nil Sl.nil)):=(Ext.refl h6).push _
  have b7:(h6.push (gC Sl.nil Sl.nil Sl.nil)).get h6.next = some (gC Sl.nil Sl.nil Sl.nil):=jv _
  have y4:=x3.trans x4
  have y47:=(x5.trans x6).trans x7
  have y7:=y4.trans y47
  have f1:=fun (α:Type) (ret:Int->Int->M α)=>zgm (k + 5) ret (h6.push (gC Sl.nil Sl.nil Sl.nil)) i2 at' c (by have:=y7.1; omega) (by rw [y7.2 _ hl2]; exact hg2)
  have x8:Ext (h6.push (gC Sl.nil Sl.nil Sl.nil)) ((h6.push (gC Sl.nil Sl.nil Sl.nil)).push (.cells [.ptr (some ⟨i2, 0⟩)] true)):=(Ext.refl _).push _
  generalize (h6.push (gC Sl.nil Sl.nil Sl.nil)).push (.cells [.ptr (some ⟨i2, 0⟩)] true) = h8 at f1 x8
  have f2:=fun (α:Type) (ret:Int->Int->M α)=>zgm (k + 5) ret h8 i4 at' c (by have:=y47.1; have:=x8.1; omega) (by rw [(y47.trans x8).2 _ hl4]; exact hg4)
  have x9:Ext h8 (h8.push (.cells [.ptr (some ⟨i4, 0⟩)] true)):=(Ext.refl _).push _
  generalize h8.push (.cells [.ptr (some ⟨i4, 0⟩)] true) = h9 at f2 x9
  have y9:=x8.trans x9
  have c3:∀ {g:H}, Ext (h2.push (gC Sl.nil Sl.nil Sl.nil)) g->g.get h2.next = some (gC Sl.nil Sl.nil Sl.nil):=fun x=>by rw [x.2 _ (by rw [zh]; omega)]; exact b3
  have c5:∀ {g:H}, Ext (h4.push (gC Sl.nil Sl.nil Sl.nil)) g->g.get h4.next = some (gC Sl.nil Sl.nil Sl.nil):=fun x=>by rw [x.2 _ (by rw [zh]; omega)]; exact b5
  have c7:∀ {g:H}, Ext (h6.push (gC Sl.nil Sl.nil Sl.nil)) g->g.get h6.next = some (gC Sl.nil Sl.nil Sl.nil):=fun x=>by rw [x.2 _ (by rw [zh]; omega)]; exact b7
  obtain ⟨h10, x10, e10⟩:=zge (k + 5) (zma h9) (zma h9) (gb_nil.mono (by omega))
  obtain ⟨h11, x11, e11⟩:=zge (k + 5) (zma h10) (zma h10) (gb_nil.mono (by omega))
  have z39:=((x4.trans y47).trans y9)
  have z59:=(x6.trans x7).trans y9
  refine ⟨h11, fun α ret=>?_⟩
  rw [qg.f]
  unfold qg.u22.f qg.u1.f
  rw [e1, e2, zfq, e4, zfq, e6, zfq, f1, f2, g_o' (c3 z39), g_p' (c3 z39), g_m' (c3 z39), g_o' (c7 y9), g_p' (c7 y9), g_m' (c7 y9), e10, dT rfl]
  unfold qg.u21.f qg.u19.f qg.u2.f qg.u18.f qg.u17.f
  simp only [qg.u17.l]
  unfold qg.u16.f qg.u3.f
  rw [g_o (c3 (z39.trans x10)), dF (by decide:¬ (0:Int) < (Sl.nil.len:Int)), cond_false]
  unfold qg.u20.f
  dsimp only
  rw [g_o' (c5 (z59.trans x10)), g_p' (c5 (z59.trans x10)), g_m' (c5 (z59.trans x10)), g_o' (c7 (y9.trans x10)), g_p' (c7 (y9.trans x10)), g_m' (c7 (y9.trans x10)), e11]
  simp only [decide_true, cond_true]
 | ok g=>
  have ok:=parse_ok hp
  rw [hp] at A2
  obtain ⟨o, p, m, h2, e2, x2, q3, b, rows, hb, B2⟩:=A2
  have x3:Ext h2 (h2.push (gC o p m)):=(Ext.refl h2).push _
  have b3:(h2.push (gC o p m)).get h2.next = some (gC o p m):=jv _
  have A4:=zda (k + 1) (by omega) text (h2.push (gC o p m))
  rw [hp] at A4
  obtain ⟨o4, p4, m4, h4, e4, x4, q4, b4, rows4, hb4, B4⟩:=A4
  have x5:Ext h4 (h4.push (gC o4 p4 m4)):=(Ext.refl h4).push _
  have b5:(h4.push (gC o4 p4 m4)).get h4.next = some (gC o4 p4 m4):=jv _
  have A6:=zix (k + 1) (by omega) text (h4.push (gC o4 p4 m4))
  rw [hp] at A6
  obtain ⟨o6, p6, m6, h6, e6, x6, q6, b6, rows6, hb6, B6⟩:=A6
  have x7:Ext h6 (h6.push (gC o6 p6 m6)):=(Ext.refl h6).push _
  have b7:(h6.push (gC o6 p6 m6)).get h6.next = some (gC o6 p6 m6):=jv _
  have y37:=((x4.trans x5).trans x6).trans x7
  have y57:=x6.trans x7
  have B2':=B2.ext (x3.trans y37)
  have B4':=B4.ext (x5.trans y57)
  have B6':=B6.ext x7
  have c3:∀ {g:H}, Ext (h2.push (gC o p m)) g->g.get h2.next = some (gC o p m):=fun x=>by rw [x.2 _ (by rw [zh]; omega)]; exact b3
  have c5:∀ {g:H}, Ext (h4.push (gC o4 p4 m4)) g->g.get h4.next = some (gC o4 p4 m4):=fun x=>by rw [x.2 _ (by rw [zh]; omega)]; exact b5
  have c7:∀ {g:H}, Ext (h6.push (gC o6 p6 m6)) g->g.get h6.next = some (gC o6 p6 m6):=fun x=>by rw [x.2 _ (by rw [zh]; omega)]; exact b7
  obtain ⟨h10, x10, e10⟩:=zge (k + 5) B2'.gm B6'.gm (ok.gb.mono (by omega))
  have B10:=B2'.ext x10
  have hl2:=B2.lti
  have n3:=x3.1; have n4:=x4.1; have n5:=x5.1; have n6:=x6.1; have n7:=x7.1; have n10:=x10.1
  rw [zh] at hb4 hb6 n3 n4 n5 n6 n7 n10
  have hn2:=ok.n2
  obtain ⟨h11, n11, k11, e11⟩:=znq (k + 7) (qa:=h2.next) B10 (fun hh=>by have:=hl2 _ hh; omega) (by omega) ok.l1 ok.l2 hn2 (fun l hl=>by have:=ok.short l hl; omega) (by omega) (x0:=true) (x2:=⟨h4.next, 0⟩) (x3:=⟨h6.next, 0⟩) (x4:=0) (x5:=0) (x6:=0) (x7:=0) (x8:=0) (x9:=0) (x10:=true) (k + 7) 0 h10 (Nat.zero_le _) (by omega) (Nat.le_refl _) (fun _ _ _=>rfl) (c3 (y37.trans x10))
   ⟨⟨_, B10.ao, ok.l1⟩, ⟨_, B10.ap, ok.l2⟩, ⟨rows, B10.am, B10.len, fun _ _=>rfl⟩, fun j r l _ h1 h2=>B10.row j r l h1 h2⟩
  have hkeep:∀ y, h2.next≤y->y < h10.next->h11.get y = h10.get y:=fun y h1 h2=>k11 y h2 fun hh=>by have:=hl2 _ hh; omega
  have B4x:=B4'.ext x10
  have B6x:=B6'.ext x10
  have G4:GmR h11 o4 p4 m4 g:=B4x.gmk n11 fun i hi=>hkeep i (by have:=B4x.old i hi; omega) (B4x.lti i hi)
  have G6:GmR h11 o6 p6 m6 g:=B6x.gmk n11 fun i hi=>hkeep i (by have:=B6x.old i hi; omega) (B6x.lti i hi)
  have d5:h11.get h4.next = some (gC o4 p4 m4):=by rw [hkeep _ (by omega) (by omega)]; exact c5 (y57.trans x10)
  have d7:h11.get h6.next = some (gC o6 p6 m6):=by rw [hkeep _ (by omega) (by omega)]; exact c7 x10
  obtain ⟨h12, x12, e12⟩:=zge (k + 5) G4 G6 (ok.gb.mono (by omega))
  refine ⟨h12, fun α ret=>?_⟩
  rw [qg.f]
  unfold qg.u22.f qg.u1.f
  rw [e1, e2, zfq, e4, zfq, e6, zfq, zkg, zkg, g_o' (c3 y37), g_p' (c3 y37), g_m' (c3 y37), g_o' b7, g_p' b7, g_m' b7, e10, dT rfl]
  unfold qg.u21.f qg.u19.f qg.u2.f qg.u18.f qg.u17.f
  refine (e11 α _).trans ?_
  unfold qg.u20.f
  dsimp only
  rw [g_o' d5, g_p' d5, g_m' d5, g_o' d7, g_p' d7, g_m' d7, e12]
  simp only [decide_true, cond_true]
theorem PagesParses_law (text:List UInt8) (_:text.length≤reachBytes):∃ k h', ∀ (α:Type) (ret:Bool->M α), qg.f (k + 1) text ret h0 = ret true h':=by
 obtain ⟨h', e⟩:=znk 400000 (Nat.le_refl _) text h0
 exact ⟨_, h', e⟩
end Go.Ab.S8
