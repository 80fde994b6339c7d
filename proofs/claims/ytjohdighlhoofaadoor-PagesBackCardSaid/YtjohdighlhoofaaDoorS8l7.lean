import Derived.Test.YtjohdighlhoofaaDoorS8sx
set_option linter.unusedVariables false
set_option linter.unusedSimpArgs false
namespace Go.Ab.S8
theorem zfp {kind:Int} {text:List UInt8} {t:Tok} {r:List Tok} (h0:kind ≠ 0) (hk:t.kind = kind) (ht:text = [] ∨ t.text = text):yt kind text ⟨t :: r, none⟩ = (t.num, ⟨r, none⟩):=by
 rw [zcp (s:=⟨t :: r, none⟩) rfl ⟨hk, ht⟩, if_neg h0]; rfl
theorem zez {a b e:Int} {t:Tok} {r:List Tok} (hk:t.kind = 4) (ha:a≤t.num) (hb:t.num≤b):numP a b e ⟨t :: r, none⟩ = (t.num, ⟨r, none⟩):=by
 unfold numP
 rw [if_neg (fun c=>by have h2:t.num < a ∨ b < t.num:=c.2; omega)]
 exact zfp (by decide) hk (.inl rfl)
theorem zee:∀ {b:List Tok} {t:Tok} {r:List Tok}, (∀ t ∈ b, t.kind = 1)->t.kind ≠ 1->zbe (b ++ t :: r) = t :: r
 | [], t, r, _, ht=>by rw [List.nil_append, zbe, if_neg ht]
 | u :: b, t, r, h, ht=>by rw [List.cons_append, zbe, if_pos (h u List.mem_cons_self)]; exact zee (fun x hx=>h x (List.mem_cons_of_mem _ hx)) ht
theorem mvs_fwd (n:Int):∀ (ms:List Tok) (f:Nat) (acc:List Int) (last:Int) (e:Tok) (x:List Tok), (∀ t ∈ ms, t.kind = 4)->yv n last (ms.map Tok.num) = true->e.kind ≠ 4->ms.length < f ->
  mvsP n f acc last ⟨ms ++ e :: x, none⟩ = (acc ++ ms.map Tok.num, ⟨e :: x, none⟩)
 | [], f + 1, acc, last, e, x, _, _, he, _=>by
  rw [mvsP, if_neg (fun c=>he c.2)]; simp
 | t :: ms, f + 1, acc, last, e, x, hm, hb, he, hf=>by
  simp only [List.map_cons, yv, Bool.and_eq_true, decide_eq_true_eq] at hb
  have hk:=hm t List.mem_cons_self
  rw [mvsP, if_pos ⟨rfl, hk⟩, List.cons_append, zez hk (by omega) (by omega)]
  dsimp only
  rw [mvs_fwd n ms f _ _ e x (fun u hu=>hm u (List.mem_cons_of_mem _ hu)) hb.2 he (by simpa using hf)]
  simp
theorem end_fwd {rest l':List Tok} (h:(rest = l' ∧ ∃ e x, rest = e :: x ∧ e.kind = 0) ∨ ∃ e, rest = e :: l' ∧ e.kind = 1):endP ⟨rest, none⟩ = ⟨l', none⟩:=by
 unfold endP
 rcases h with ⟨rfl, e, x, rfl, he⟩ | ⟨e, rfl, he⟩
 ·rw [if_pos (show (⟨e :: x, none⟩:St).hd.kind = 0 from he)]
 ·rw [if_neg (show ¬ (⟨e :: l', none⟩:St).hd.kind = 0 by show ¬ e.kind = 0; omega), zfp (by decide) he (.inl rfl)]
theorem row_fwd {n i:Int} {l l':List Tok} {r:Rw} (h:RowL n i l l' r):rowP n i ⟨l, none⟩ = (r, ⟨l', none⟩):=by
 obtain ⟨b, ti, to', tp, tc, ms, rest, rfl, hb, ⟨i1, i2⟩, ⟨o1, o2⟩, ⟨p1, p2⟩, ⟨c1, c2⟩, m1, m2, hr⟩:=h.ex
 have ok:=h.ok
 have e1:yf ⟨b ++ (ti :: to' :: tp :: tc :: (ms ++ rest)), none⟩ = ⟨ti :: to' :: tp :: tc :: (ms ++ rest), none⟩:=by
  unfold yf
  dsimp only
  rw [zee hb (by omega)]
 have ho:=ok.o
 have hp:=ok.p
 have hre:∃ e x, rest = e :: x ∧ e.kind ≠ 4:=by
  rcases hr with ⟨_, e, x, h1, h2⟩ | ⟨e, h1, h2⟩
  ·exact ⟨e, x, h1, by omega⟩
  ·exact ⟨e, _, h1, by omega⟩
 obtain ⟨e, x, rfl, he⟩:=hre
 have e2:zbj n ⟨ms ++ e :: x, none⟩ = (r.m, ⟨e :: x, none⟩):=by
  unfold zbj
  rw [mvs_fwd n ms _ [] (-1) e x m1 (by rw [m2]; exact ok.m) he (by simp; omega), List.nil_append, m2]
  unfold zjh
  rw [if_neg (fun c=>ok.ne c.1)]
 unfold rowP
 dsimp only
 rw [e1, zez i1 (by omega) (by omega)]
 dsimp only
 rw [zez o1 (by omega) (by omega)]
 dsimp only
 rw [zez p1 (by omega) (by omega)]
 dsimp only
 rw [zfp (by decide) c1 (.inr c2)]
 dsimp only
 rw [e2]
 dsimp only
 rw [end_fwd hr, o2, p2]
theorem rows_fwd {n:Int}:∀ {i:Int} {l l':List Tok} {rs:List Rw}, RowsL n i l rs l'->∀ g, zbn n rs.length i g ⟨l, none⟩ = (rs.foldl Gm.add g, ⟨l', none⟩):=by
 intro i l l' rs h
 induction h with
 | nil=>intro g; rfl
 | cons R _ ih=>
  intro g
  rw [List.length_cons, zbn, if_pos (show (none:Option (Int × Int)).isNone = true from rfl), row_fwd R]
  dsimp only
  rw [ih]
  rfl
theorem head_fwd {ts b rest l1:List Tok} {tg tn:Tok} (hts:ts = b ++ (tg :: tn :: rest)) (hb:∀ t ∈ b, t.kind = 1) (hg:tg.kind = 2 ∧ tg.text = [103, 97, 109, 101]) (hn:tn.kind = 4) (h1:1≤tn.num) (h2:tn.num≤200)
  (hr:(rest = l1 ∧ ∃ e x, rest = e :: x ∧ e.kind = 0) ∨ ∃ e, rest = e :: l1 ∧ e.kind = 1):yk ⟨ts, none⟩ = (tn.num, ⟨l1, none⟩):=by
 have e1:yf ⟨ts, none⟩ = ⟨tg :: tn :: rest, none⟩:=by
  unfold yf
  dsimp only
  rw [hts, zee hb (by omega)]
 unfold yk
 dsimp only
 rw [e1, zfp (by decide) hg.1 (.inr hg.2)]
 dsimp only
 rw [zez hn h1 h2]
 dsimp only
 rw [end_fwd hr]
theorem page_fwd {ts:List Tok} {g:Gm} (h:PageL ts g):pageP ts = .ok g:=by
 obtain ⟨b, tg, tn, rest, l1, rs, l2, e, hts, hb, hg, ⟨n1, n2⟩, hn, hr, R, rfl, ⟨b', hl2, hb'⟩, he⟩:=h.ex
 unfold pageP
 rw [head_fwd hts hb hg n1 (by omega) (by omega) hr]
 dsimp only
 rw [n2, show ((rs.length:Int)).toNat = rs.length from Int.toNat_natCast _, rows_fwd R]
 unfold zlo
 dsimp only
 have e2:yf ⟨l2, none⟩ = ⟨[e], none⟩:=by
  unfold yf
  dsimp only
  rw [hl2, zee hb' (by omega)]
 rw [e2, zcp (s:=⟨[e], none⟩) rfl ⟨he, .inl rfl⟩, if_pos rfl]
 dsimp only
 rw [zmn]
 rfl
structure RowT (i:Int) (ts:List Tok) (r:Rw):Prop where
 ex:∃ b ti to' tp tc ms, ts = b ++ (ti :: to' :: tp :: tc :: ms) ∧ (∀ t ∈ b, t.kind = 1) ∧ (ti.kind = 4 ∧ ti.num = i) ∧ (to'.kind = 4 ∧ to'.num = r.o) ∧ (tp.kind = 4 ∧ tp.num = r.p) ∧ (tc.kind = 5 ∧ tc.text = [58]) ∧ (∀ t ∈ ms, t.kind = 4) ∧ ms.map Tok.num = r.m
theorem RowT.rowL {n i:Int} {ts rest:List Tok} {r:Rw} (h:RowT i ts r) (ok:RowOk n r.o r.p r.m) {f:Tok} (hf:f.kind = 1):RowL n i (ts ++ f :: rest) rest r:=by
 obtain ⟨b, ti, to', tp, tc, ms, rfl, h1, h2, h3, h4, h5, h6, h7⟩:=h.ex
 exact ⟨⟨b, ti, to', tp, tc, ms, f :: rest, by simp, h1, h2, h3, h4, h5, h6, h7, .inr ⟨f, rfl, hf⟩⟩, ok⟩
theorem zag {w:List UInt8} (hne:w ≠ []) (hp:zga w):∀ st, jv st w = false:=by
 induction w with
 | nil=>exact absurd rfl hne
 | cons c w ih=>
  intro st
  rw [jv, decide_eq_false (hp c List.mem_cons_self).2]
  cases w with
  | nil=>rfl
  | cons d w=>exact ih (by simp) (fun b hb=>hp b (List.mem_cons_of_mem _ hb)) _
theorem row_scan {n i:Nat} {o p:Int} {l:List Int} (hi:i < 1000) (hn:n≤200) (ok:RowOk n o p l) {out:List UInt8} (h:Nz true (zfv i o p ++ l.flatMap mvS) out) :
  jv true (zfv i o p ++ l.flatMap mvS) = false ∧ ∀ P R, zeo R->∃ ts, Sx P (out ++ R) ts (P ++ out) R ∧ RowT i ts ⟨o, p, l⟩:=by
 have ho:=ok.o
 have hp:=ok.p
 obtain ⟨on, rfl⟩:=Int.eq_ofNat_of_zero_le ho.1
 obtain ⟨pn, rfl⟩:=Int.eq_ofNat_of_zero_le hp.1
 have hl:∀ v ∈ l, 0≤v ∧ v < 1000:=fun v hv=>by have:=zde ok.m v hv; omega
 rw [show zfv i (on:Int) (pn:Int) ++ l.flatMap mvS = decD i ++ ((32 :: decD on) ++ ((32 :: decD pn) ++ ([32, 58] ++ l.flatMap mvS))) by
  unfold zfv; simp [Int.toNat_natCast]] at h ⊢
 obtain ⟨o1, x1, rfl, h1, h⟩:=h.split
 rw [zag (zdz i hi).2.2.2 (zam i hi)] at h
 obtain ⟨o2, x2, rfl, h2, h⟩:=h.split
 have q2:jv false (32 :: decD on) = false:=by rw [jv]; exact zag (zdz on (by omega)).2.2.2 (zam on (by omega)) _
 rw [q2] at h
 obtain ⟨o3, x3, rfl, h3, h⟩:=h.split
 have q3:jv false (32 :: decD pn) = false:=by rw [jv]; exact zag (zdz pn (by omega)).2.2.2 (zam pn (by omega)) _
 rw [q3] at h
 obtain ⟨o4, o5, rfl, h4, h5⟩:=h.split
 rw [show jv false [32, 58] = false from rfl] at h5
 obtain ⟨add, rfl, ha, _⟩:=h1.word (zdz i hi).2.2.2 (zam i hi)
 obtain ⟨s2a, s2⟩:=zla (by omega) h2
 obtain ⟨s3a, s3⟩:=zla (by omega) h3
 obtain ⟨s4a, s4⟩:=sp_colon h4
 obtain ⟨s5z, s5a, s5⟩:=sp_nums hl h5
 refine ⟨?_, fun P R hR=>?_⟩
 ·rw [zaf, zaf, zaf, zaf, zag (zdz i hi).2.2.2 (zam i hi), q2, q3]
  exact s5z
 ·obtain ⟨b, b1, b2⟩:=ha P (decD i ++ (o2 ++ (o3 ++ (o4 ++ (o5 ++ R)))))
  have t1:=Sx.num (P ++ add) i hi (o2 ++ (o3 ++ (o4 ++ (o5 ++ R)))) (s2a _)
  obtain ⟨t2, u2, k2, v2⟩:=s2 (P ++ add ++ decD i) (o3 ++ (o4 ++ (o5 ++ R))) (s3a _)
  obtain ⟨t3, u3, k3, v3⟩:=s3 (P ++ add ++ decD i ++ o2) (o4 ++ (o5 ++ R)) (s4a _)
  obtain ⟨t4, u4, k4, v4⟩:=s4 (P ++ add ++ decD i ++ o2 ++ o3) (o5 ++ R)
  obtain ⟨ms, u5, k5, v5⟩:=s5 (P ++ add ++ decD i ++ o2 ++ o3 ++ o4) R hR
  refine ⟨_, by have:=((((b1.trans t1).trans u2).trans u3).trans u4).trans u5; simpa [List.append_assoc] using this, ⟨b, _, t2, t3, t4, ms, rfl, b2, ⟨rfl, rfl⟩, ⟨k2, v2⟩, ⟨k3, v3⟩, ⟨k4, v4⟩, k5, v5⟩⟩
theorem head_scan {n:Nat} (hn:n < 1000) {out:List UInt8} (h:Nz true ([103, 97, 109, 101] ++ (32 :: decD n)) out) :
  jv true ([103, 97, 109, 101] ++ (32 :: decD n)) = false ∧ ∀ P R, zeo R->∃ b tg tn, Sx P (out ++ R) (b ++ [tg, tn]) (P ++ out) R ∧ (∀ t ∈ b, t.kind = 1) ∧ (tg.kind = 2 ∧ tg.text = [103, 97, 109, 101]) ∧ tn.kind = 4 ∧ tn.num = (n:Int):=by
 have hp:zga [103, 97, 109, 101]:=by intro b hb; simp at hb; rcases hb with rfl | rfl | rfl | rfl <;> decide
 obtain ⟨o1, o2, rfl, h1, h2⟩:=h.split
 rw [zag (by simp) hp] at h2
 have q2:jv false (32 :: decD n) = false:=by rw [jv]; exact zag (zdz n hn).2.2.2 (zam n hn) _
 obtain ⟨add, rfl, ha, _⟩:=h1.word (by simp) hp
 obtain ⟨bl, rfl, hb, _⟩:=h2.sp (zam n hn)
 obtain ⟨s2a, s2⟩:=zla hn h2
 refine ⟨by rw [zaf, zag (by simp) hp]; exact q2, fun P R hR=>?_⟩
 obtain ⟨b, b1, b2⟩:=ha P ([103, 97, 109, 101] ++ (bl ++ 32 :: decD n ++ R))
 have t1:=Sx.name (P ++ add) 103 [97, 109, 101] (bl ++ 32 :: decD n ++ R) _ rfl (kd:=2) (by decide) (.inl rfl) (by decide) (by decide) (fun c s e=>by
  rw [List.append_assoc] at e
  cases bl with
  | nil=>cases e; rfl
  | cons d bl=>
   cases e
   have:=hb c List.mem_cons_self
   simp only [yo, Bool.or_eq_true, decide_eq_true_eq] at this
   have e1:c = 32 ∨ c = 9:=by
    rcases this with h | h
    ·exact .inl (UInt8.toNat_inj.1 (show c.toNat = 32 by omega))
    ·exact .inr (UInt8.toNat_inj.1 (show c.toNat = 9 by omega))
   rcases e1 with rfl | rfl <;> rfl)
 obtain ⟨t2, u2, k2, v2⟩:=s2 (P ++ add ++ [103, 97, 109, 101]) R hR
 refine ⟨b, _, t2, by have:=(b1.trans t1).trans u2; simpa [List.append_assoc] using this, b2, ⟨rfl, rfl⟩, k2, v2⟩
def lsS (i:Nat) (rs:List Rw):List UInt8:=zcb i (rs.map Rw.o) (rs.map Rw.p) (rs.map Rw.m)
theorem lsS_cons (i:Nat) (r:Rw) (rs:List Rw):lsS i (r :: rs) = (zfv i r.o r.p ++ r.m.flatMap mvS) ++ ([10] ++ lsS (i + 1) rs):=by
 show zjf i r.o r.p r.m ++ lsS (i + 1) rs = _
 unfold zjf
 simp
theorem RowsL.app {n:Int} {i:Int} {l l' l'':List Tok} {rs rs':List Rw} (h:RowsL n i l rs l'):RowsL n (i + rs.length) l' rs' l''->RowsL n i l (rs ++ rs') l'':=by
 induction h with
 | nil=>intro g; simpa using g
 | cons R _ ih=>
  intro g
  refine .cons R (ih ?_)
  simp only [List.length_cons] at g
  rw [show ∀ (i:Int) (k:Nat), i + 1 + (k:Int) = i + ((k + 1:Nat):Int) by intro i k; omega]
  exact g
theorem zif {n:Nat} (hn:n≤200):∀ (rs:List Rw) (i:Nat) {out:List UInt8}, (∀ r ∈ rs, RowOk n r.o r.p r.m)->i + rs.length≤1000->Nz true (lsS i rs) out ->
  jv true (lsS i rs) = true ∧ ∀ P R, ∃ ts, Sx P (out ++ R) ts (P ++ out) R ∧ ∀ rest, RowsL n i (ts ++ rest) rs rest
 | [], i, out, _, _, h=>by
  cases h
  exact ⟨rfl, fun P R=>⟨[], by simpa using Sx.nil P R, fun rest=>.nil⟩⟩
 | r :: rs, i, out, hr, hi, h=>by
  rw [lsS_cons] at h ⊢
  simp only [List.length_cons] at hi
  obtain ⟨o1, x1, rfl, h1, h⟩:=h.split
  obtain ⟨k1, k2⟩:=row_scan (by omega) hn (hr r List.mem_cons_self) h1
  rw [k1] at h
  obtain ⟨o2, o3, rfl, h2, h3⟩:=h.split
  obtain rfl:=h2.feed
  rw [show jv false [10] = true from rfl] at h3
  obtain ⟨g1, g2⟩:=zif hn rs (i + 1) (fun r hr'=>hr r (List.mem_cons_of_mem _ hr')) (by omega) h3
  refine ⟨by rw [zaf, zaf, k1]; exact g1, fun P R=>?_⟩
  obtain ⟨t1, s1, R1⟩:=k2 P ([10] ++ o3 ++ R) (by
   rw [List.append_assoc]; exact zis _)
  have s2:=Sx.line (P ++ o1) (o3 ++ R)
  obtain ⟨t3, s3, R3⟩:=g2 (P ++ o1 ++ [10]) R
  refine ⟨_, by
   have:=(s1.trans (q:=P ++ o1) (us:=_) (v:=_) (by simpa using s2)).trans s3
   simpa [List.append_assoc] using this, fun rest=>?_⟩
  have:=R1.rowL (n:=n) (rest:=t3 ++ rest) (hr r List.mem_cons_self) (f:=⟨1, ((P ++ o1).length:Nat), [10], 0⟩) rfl
  have e:((i:Nat):Int) + 1 = ((i + 1:Nat):Int):=by omega
  have hc:RowsL n i (t1 ++ ⟨1, ((P ++ o1).length:Nat), [10], 0⟩ :: (t3 ++ rest)) (r :: rs) rest:=.cons this (by rw [e]; exact R3 rest)
  simpa [List.append_assoc] using hc
theorem ok_rows {g:Gm} (h:Ok g):∃ rs, g = zbu rs ∧ rs.length = g.mv.length ∧ ∀ r ∈ rs, RowOk g.mv.length r.o r.p r.m:=by
 have key:∀ (os ps:List Int) (ls:List (List Int)), os.length = ls.length->ps.length = ls.length->∃ rs:List Rw, rs.map Rw.o = os ∧ rs.map Rw.p = ps ∧ rs.map Rw.m = ls:=by
  intro os
  induction os with
  | nil=>intro ps ls h1 h2; exact ⟨[], rfl, by cases ls <;> simp_all, by cases ls <;> simp_all⟩
  | cons o os ih=>
   intro ps ls h1 h2
   cases ls with
   | nil=>simp at h1
   | cons l ls=>
    cases ps with
    | nil=>simp at h2
    | cons p ps=>
     obtain ⟨rs, e1, e2, e3⟩:=ih ps ls (by simpa using h1) (by simpa using h2)
     exact ⟨⟨o, p, l⟩ :: rs, by simp [e1], by simp [e2], by simp [e3]⟩
 obtain ⟨rs, e1, e2, e3⟩:=key g.ow g.pr g.mv h.l1 h.l2
 refine ⟨rs, by unfold zbu; rw [e1, e2, e3], by rw [← e3]; simp, fun r hr=>?_⟩
 obtain ⟨i, hi⟩:=List.getElem?_of_mem hr
 exact h.row i _ _ _ (by rw [← e1, List.getElem?_map, hi]; rfl) (by rw [← e2, List.getElem?_map, hi]; rfl) (by rw [← e3, List.getElem?_map, hi]; rfl)
theorem zmx (rs:List Rw):zbc (zbu rs) = ([103, 97, 109, 101] ++ (32 :: decD rs.length)) ++ ([10] ++ lsS 0 rs):=by
 unfold zbc topS zbu lsS
 simp
theorem scan_all {s:List UInt8} {ts:List Tok} (h:Sx [] s ts s []) (hl:s.length≤262144):zcy s = .ok (ts ++ [⟨0, (s.length:Nat), [], 0⟩]):=by
 have:=h.2
 rw [List.nil_append] at this
 exact this.okF hl
theorem zha {g:Gm} (ok:Ok g) {out:List UInt8} (h:Nz true (zbc g) out) (hl:out.length≤262144):zcm out = .ok g:=by
 obtain ⟨rs, e, hlen, hr⟩:=ok_rows ok
 rw [← hlen] at hr
 have n1:=ok.n1
 have n2:=ok.n2
 rw [e, zmx] at h
 obtain ⟨o1, x1, rfl, h1, h⟩:=h.split
 obtain ⟨k1, k2⟩:=head_scan (by omega) h1
 rw [k1] at h
 obtain ⟨o2, o3, rfl, h2, h3⟩:=h.split
 obtain rfl:=h2.feed
 rw [show jv false [10] = true from rfl] at h3
 obtain ⟨_, g2⟩:=zif (by omega:rs.length≤200) rs 0 hr (by omega) h3
 obtain ⟨b, tg, tn, s1, b1, b2, b3, b4⟩:=k2 [] ([10] ++ o3) (zis _)
 have s2:=Sx.line o1 o3
 obtain ⟨t3, s3, R3⟩:=g2 (o1 ++ [10]) []
 have S:Sx [] (o1 ++ ([10] ++ o3)) (b ++ [tg, tn] ++ [⟨1, (o1.length:Nat), [10], 0⟩] ++ t3) (o1 ++ ([10] ++ o3)) []:=by
  have:=(s1.trans (by simpa using s2)).trans (by simpa using s3)
  simpa [List.append_assoc] using this
 unfold zcm
 rw [scan_all S hl]
 dsimp only
 refine page_fwd ⟨b, tg, tn, ⟨1, (o1.length:Nat), [10], 0⟩ :: (t3 ++ [⟨0, ((o1 ++ ([10] ++ o3)).length:Nat), [], 0⟩]), t3 ++ [⟨0, ((o1 ++ ([10] ++ o3)).length:Nat), [], 0⟩], rs, [⟨0, ((o1 ++ ([10] ++ o3)).length:Nat), [], 0⟩], _, by simp [List.append_assoc], b1, b2, ⟨b3, b4⟩, ⟨by omega, by omega⟩, .inr ⟨⟨1, (o1.length:Nat), [10], 0⟩, rfl, rfl⟩, R3 _, e, ⟨[], rfl, fun t ht=>(by cases ht)⟩, rfl⟩
theorem nz_refl:∀ (s:List UInt8) (st:Bool), Nz st s s
 | [], st=>.nil
 | c :: s, st=>by
  have:=Nz.cons (st:=st) (c:=c) (add:=[]) (by
   unfold NzA
   split
   ·intro b hb; cases hb
   ·split
    ·exact zau fun b hb=>by cases hb
    ·rfl) (nz_refl s (decide (c = 10)))
  simpa using this
theorem zmy {g:Gm} (ok:Ok g):zcm (zbc g) = .ok g:=zha ok (nz_refl _ _) (by have:=(zih ok).1; omega)
end Go.Ab.S8
namespace Go.Ab.S8
variable {α:Type} {h:H}
theorem GmO.gm {h:H} {n:Nat} {o p m:Sl} {g:Gm} (G:GmO h n o p m g):GmR h o p m g:=by
 obtain ⟨q3, b, rows, _, B⟩:=G
 exact B.gm
end Go.Ab.S8
namespace Go.Ab.S8
theorem Sc.split {text:List UInt8} {n m:Nat} {ts:List Tok} (s:Sc text n ts m):∀ {A B:List Tok}, ts = A ++ B->∃ q, Sc text n A q ∧ Sc text q B m:=by
 induction s with
 | nil h=>
  intro A B e
  have:=List.append_eq_nil_iff.1 e.symm
  rw [this.1, this.2]
  exact ⟨_, .nil h, .nil h⟩
 | blank hc hb _ ih=>
  intro A B e
  obtain ⟨q, h1, h2⟩:=ih e
  exact ⟨q, .blank hc hb h1, h2⟩
 | rem hc hb hr _ ih=>
  intro A B e
  obtain ⟨q, h1, h2⟩:=ih e
  exact ⟨q, .rem hc hb hr h1, h2⟩
 | tok hc hb hr he s ih=>
  intro A B e
  cases A with
  | nil=>rw [List.nil_append] at e; subst e; exact ⟨_, .nil (Nat.le_of_lt (zcq hc)), .tok hc hb hr he s⟩
  | cons t A=>
   simp only [List.cons_append, List.cons.injEq] at e
   obtain ⟨rfl, e⟩:=e
   obtain ⟨q, h1, h2⟩:=ih e
   exact ⟨q, .tok hc hb hr he h1, h2⟩
theorem Sc.lt {text:List UInt8} {n m:Nat} {ts:List Tok} (s:Sc text n ts m):n≤m ∧ (ts ≠ []->n < m):=by
 induction s with
 | nil _=>exact ⟨Nat.le_refl _, fun h=>absurd rfl h⟩
 | blank _ _ _ ih=>exact ⟨by omega, fun h=>by have:=ih.2 h; omega⟩
 | rem _ _ _ _ ih=>exact ⟨by omega, fun h=>by have:=ih.2 h; omega⟩
 | tok hc _ _ _ _ ih=>
  rename_i n m ts c _ _ _ _
  have:=(zbr (c:=c) (zcq hc)).1
  exact ⟨by have:=ih.1; omega, fun _=>by have:=ih.1; omega⟩
end Go.Ab.S8
namespace Go.Ab.S8
variable {α:Type} {h:H}
structure Noise (within:Bool) (x:List UInt8):Prop where
 ne:x ≠ []
 len:x.length≤10
 b:within = true->zcl x
 l:within = false->zfe x
theorem blank1:zcl [32]:=by intro b hb; obtain rfl:=List.mem_singleton.1 hb; rfl
theorem blank2:zcl [9, 32]:=by intro b hb; simp at hb; rcases hb with rfl | rfl <;> rfl
theorem blank3:zcl [32, 32]:=by intro b hb; simp at hb; subst hb; rfl
theorem blank4:zcl [32, 9]:=by intro b hb; simp at hb; rcases hb with rfl | rfl <;> rfl
theorem zkq (k:Nat) (v:Int) (w:Bool) (hh:H):∃ x, Noise w x ∧ ∀ (α:Type) (ret:List UInt8->M α), qq.f (k + 1) v w ret hh = ret x hh:=by
 have key:∀ v':Int, ∃ x, Noise w x ∧ ∀ (α:Type) (ret:List UInt8->M α), qq.u2.f k v' w ret hh = ret x hh:=by
  intro v'
  by_cases c0:Int.tmod v' 5 = 0
  ·exact ⟨[32], ⟨by simp, by simp, fun _=>blank1, fun _=>zau blank1⟩, fun α ret=>by rw [qq.u2.f, dT c0, cond_true]⟩
  by_cases c1:Int.tmod v' 5 = 1
  ·exact ⟨[9, 32], ⟨by simp, by simp, fun _=>blank2, fun _=>zau blank2⟩, fun α ret=>by rw [qq.u2.f, dF c0, cond_false, dT c1, cond_true]⟩
  cases w with
  | true=>exact ⟨[32, 32], ⟨by simp, by simp, fun _=>blank3, fun h=>(by cases h)⟩, fun α ret=>by rw [qq.u2.f, dF c0, cond_false, dF c1, cond_false, cond_true]⟩
  | false=>
   by_cases c2:Int.tmod v' 5 = 2
   ·refine ⟨[32, 35, 32, 103, 97, 109, 101, 32, 55, 10], ⟨by simp, by simp, fun h=>(by cases h), fun _=>?_⟩, fun α ret=>by rw [qq.u2.f, dF c0, cond_false, dF c1, cond_false, cond_false, dT c2, cond_true]⟩
    exact zgl (a:=[32]) (zau blank1) (zkk (w:=[32, 103, 97, 109, 101, 32, 55]) (by decide))
   by_cases c3:Int.tmod v' 5 = 3
   ·exact ⟨[10, 10], ⟨by simp, by simp, fun h=>(by cases h), fun _=>zgl (a:=[10]) zhx zhx⟩, fun α ret=>by rw [qq.u2.f, dF c0, cond_false, dF c1, cond_false, cond_false, dF c2, cond_false, dT c3, cond_true]⟩
   ·refine ⟨[35, 10, 32, 9], ⟨by simp, by simp, fun h=>(by cases h), fun _=>?_⟩, fun α ret=>by rw [qq.u2.f, dF c0, cond_false, dF c1, cond_false, cond_false, dF c2, cond_false, dF c3, cond_false]⟩
    exact zgl (a:=[35, 10]) (zkk (w:=[]) (by intro b hb; cases hb)) (zau blank4)
 by_cases c:v < 0
 ·obtain ⟨x, n, e⟩:=key (w64 (0 - w64 (v + 1)))
  exact ⟨x, n, fun α ret=>by
   rw [qq.f]
   unfold qq.u3.f qq.u1.f
   rw [dT c, cond_true]
   exact e α ret⟩
 ·obtain ⟨x, n, e⟩:=key v
  exact ⟨x, n, fun α ret=>by
   rw [qq.f]
   unfold qq.u3.f qq.u1.f
   rw [dF c, cond_false]
   exact e α ret⟩
def Lc (h:H) (s:Sl):Prop:=s.loose = none->∀ a, s.ad = some a->h.get a.id = some (.cells [] true) ∧ a.off = 0 ∧ s.len = 0
theorem br_row' {b:Nat} {s x:Sl} {bs more:List UInt8} (r:BR h b s bs) (hx:Rd h x 1 (zp more)) (hne:more ≠ []) (hb:bs.length + more.length≤17592186044416) :
  ∃ s' h', (∀ (α:Type) (K:Sl->M α), zx s 1 1 x K h = K s' h') ∧ BR h' b s' (bs ++ more) ∧ BStep h s h' s' ∧ s'.loose = some 1:=by
 have hl:=r.len
 have hxl:x.len = more.length:=by have:=hx.len; rw [zbh] at this; omega
 have hp:0 < x.len:=by rw [hxl]; cases more with | nil=>exact absurd rfl hne | cons _ _=>simp
 obtain ⟨h', e, A, _, kp⟩:=zhm (bytes:=1) r.app hx hp (by decide) (by omega)
 exact ⟨_, h', fun α K=>e α K, ⟨by rw [zdl]; exact A, fun a ha=>by cases ha; exact r.nx, by rw [kp.1]; have:=r.nx; omega⟩, ⟨by rw [kp.1]; omega, fun i hi hn=>kp.2 i hi fun _=>hn, fun a ha=>by cases ha; exact Nat.le_refl _⟩, rfl⟩
theorem br_add {b:Nat} {s:Sl} {bs:List UInt8} (r:BR h b s bs) (hL:Lc h s) (x:List UInt8) (c:UInt8) (hx:x.length≤10) (hb:bs.length≤17592186044000) :
  ∃ s' h', (∀ (α:Type) (K:Sl->M α), (new [.int .u8 (c.toNat:Int)] fun a=>zbl s x fun s1=>zx s1 1 1 ⟨some a, 1, 1, none⟩ K) h = K s' h') ∧ BR h' b s' (bs ++ (x ++ [c])) ∧ Keep b h h' ∧ Lc h' s':=by
 have x1:Ext h (h.push (.cells [.int .u8 (c.toNat:Int)] true)):=(Ext.refl h).push _
 have n1:(h.push (.cells [.int .u8 (c.toNat:Int)] true)).next = h.next + 1:=rfl
 have g1:(h.push (.cells [.int .u8 (c.toNat:Int)] true)).get h.next = some (.cells [.int .u8 (c.toNat:Int)] true):=jt _
 have r1:=r.ext x1
 have lt:∀ a, s.ad = some a->a.id < h.next:=fun a ha=>(r.app.rd.row a ha).2
 by_cases hx0:x = []
 ·subst hx0
  have e1:∀ (α:Type) (K:Sl->M α), zbl s [] K (h.push (.cells [.int .u8 (c.toNat:Int)] true)) = K s (h.push (.cells [.int .u8 (c.toNat:Int)] true)):=by
   intro α K
   refine (app_row0 (bytes:=1) r1.app (Rd.nilSl _ 1) rfl K fun hn a ha=>?_)
   obtain ⟨q1, q2, q3⟩:=hL hn a ha
   exact ⟨by rw [x1.2 _ (lt a ha)]; exact q1, q2, q3⟩
  obtain ⟨s', h', e, B, kp, hl⟩:=br_row' r1 (x:=⟨some ⟨h.next, 0⟩, 1, 1, none⟩) (more:=[c]) (zgj g1 (by omega)) (by simp) (by simp; omega)
  refine ⟨s', h', fun α K=>?_, by simpa using B, (Keep.of x1 r.nx).trans (kp.keep r1), fun hn=>by rw [hl] at hn; cases hn⟩
  rw [zu rfl, e1]
  exact e α K
 ·obtain ⟨s1, h2, e1, B1, kp1⟩:=br_str r1 x hx0 (by omega)
  have g2:h2.get h.next = some (.cells [.int .u8 (c.toNat:Int)] true):=by
   rw [kp1.kept h.next (by omega) fun a ha=>by have:=lt a ha; omega]; exact g1
  obtain ⟨s', h', e, B, kp, hl⟩:=br_row' B1 (x:=⟨some ⟨h.next, 0⟩, 1, 1, none⟩) (more:=[c]) (zgj g2 (by have:=kp1.nx; omega)) (by simp) (by simp; omega)
  refine ⟨s', h', fun α K=>?_, by simpa using B, ((Keep.of x1 r.nx).trans (kp1.keep r1)).trans (kp.keep B1), fun hn=>by rw [hl] at hn; cases hn⟩
  rw [zu rfl, e1]
  exact e α K
theorem int_at {s:Sl} {l:List Int} (r:Rd h s 1 (l.flatMap cI)) {n:Nat} (hn:0 < l.length) (hlen:s.len = l.length):∃ v:Int, ∀ (α:Type) (K:Int->M α), idxSl s (Int.tmod (n:Int) (s.len:Int)) 1 (fun a=>ldI .i64 (a.add 0) K) h = K v h:=by
 have hlt:n % l.length < l.length:=Nat.mod_lt _ hn
 have ht:Int.tmod (n:Int) (s.len:Int) = ((n % l.length:Nat):Int):=by
  rw [hlen, Int.tmod_eq_emod_of_nonneg (by omega)]; simp
 refine ⟨l[n % l.length], fun α K=>?_⟩
 rw [zhn r ht (by rw [hlen]; exact hlt), zlf]
 refine r.ldI (n:=n % l.length * 1 + 0) ?_ K
 rw [zby (c:=cI) (size:=1) (fun _=>rfl) l _ l[n % l.length] 0 (List.getElem?_eq_getElem hlt) (by decide)]
 rfl
def stB (text:List UInt8) (i:Nat):Bool:=decide (i = 0) || decide (text[i - 1]? = some 10)
theorem nza_nil (st:Bool) (c:UInt8):NzA st c []:=by
 unfold NzA
 split
 ·intro b hb; cases hb
 ·split
  ·exact zau fun b hb=>by cases hb
  ·rfl
theorem byte_eq {a:UInt8} {n:Nat} (hn:n < 256):((a.toNat:Int) = (n:Int)) ↔ a = UInt8.ofNat n:=by
 constructor
 ·intro e
  have e:a.toNat = n:=by omega
  subst e
  simp
 ·intro e
  subst e
  rw [UInt8.toNat_ofNat']
  omega
theorem zny (k:Nat) {ns:List Int} {text:List UInt8} (hl:text.length≤164020) {x0:Sl} {h₀:H} (r0:Rd h₀ x0 1 (ns.flatMap cI)) (q:Ad) (v:V) (b2:Bool) :
  ∀ (f i n:Nat) (h:H) (s:Sl) (bs:List UInt8), i≤text.length->text.length - i < f->n≤i->Ext h₀ h->BR h h₀.next s bs->bs.length≤11 * i->Lc h s ->
   ∃ out s' h', Nz (stB text i) (text.drop i) out ∧ Ext h₀ h' ∧ BR h' h₀.next s' (bs ++ out) ∧
    ∀ (α:Type) (kx:Ad->V->Bool->Sl->M α), qg.u9.l (k + 1) kx f x0 q text v b2 s (n:Int) (i:Int) h = kx q v b2 s' h':=by
 intro f
 induction f with
 | zero=>intro i n h s bs _ hf; omega
 | succ f ih=>
  intro i n h s bs hi hf hni x B hbs hL
  have hlen:x0.len = ns.length:=zfq (c:=cI) (fun _=>rfl) r0
  by_cases hlt:i < text.length
  ·have hc:text[i]? = some text[i]:=List.getElem?_eq_getElem hlt
   have hw:w64 ((i:Int) + 1) = ((i + 1:Nat):Int):=by rw [jo (by omega) (by omega)]; omega
   have hwn:w64 ((n:Int) + 1) = ((n + 1:Nat):Int):=by rw [jo (by omega) (by omega)]; omega
   have hst:stB text (i + 1) = decide (text[i] = 10):=by
    unfold stB
    rw [Nat.add_sub_cancel, hc, decide_eq_false (by omega), Bool.false_or]
    simp
   -- one turn: what stands ahead, and the count
   have turn:∀ (x:List UInt8) (n':Nat), NzA (stB text i) text[i] x->x.length≤10->n'≤i + 1 ->
     (∀ (α:Type) (kx:Ad->V->Bool->Sl->M α), qg.u9.l (k + 1) kx (f + 1) x0 q text v b2 s (n:Int) (i:Int) h =
      (new [.int .u8 (text[i].toNat:Int)] fun a=>zbl s x fun s1=>zx s1 1 1 ⟨some a, 1, 1, none⟩ fun s2=>qg.u9.l (k + 1) kx f x0 q text v b2 s2 (n':Int) (((i + 1:Nat)):Int)) h) ->
     ∃ out s' h', Nz (stB text i) (text.drop i) out ∧ Ext h₀ h' ∧ BR h' h₀.next s' (bs ++ out) ∧
      ∀ (α:Type) (kx:Ad->V->Bool->Sl->M α), qg.u9.l (k + 1) kx (f + 1) x0 q text v b2 s (n:Int) (i:Int) h = kx q v b2 s' h':=by
    intro y n' hy hy10 hn' eT
    obtain ⟨s1, h1, e1, B1, k1, L1⟩:=br_add B hL y text[i] hy10 (by omega)
    have x1:Ext h₀ h1:=⟨Nat.le_trans x.1 k1.1, fun j hj=>by rw [k1.2 j hj, x.2 j hj]⟩
    obtain ⟨out, s', h', z, x2, B2, e2⟩:=ih (i + 1) n' h1 s1 _ (by omega) (by omega) hn' x1 B1 (by simp; omega) L1
    refine ⟨y ++ text[i] :: out, s', h', ?_, x2, by simpa using B2, fun α kx=>?_⟩
    ·rw [List.drop_eq_getElem_cons hlt]
     rw [hst] at z
     exact .cons hy z
    ·rw [eT, e1, e2]
   have open':∀ (α:Type) (kx:Ad->V->Bool->Sl->M α), qg.u9.l (k + 1) kx (f + 1) x0 q text v b2 s (n:Int) (i:Int) h =
     qg.u4.f (k + 1) x0 q text v b2 s (n:Int) (i:Int) (fun y0 y1 y2 y3 y4 y5 y6 y7=>qg.u6.f (k + 1) y0 y1 y2 y3 y4 y5 y6 y7 (fun y0 y1 y2 y3 y4 y5 y6 y7=>qg.u9.l (k + 1) kx f y0 y1 y2 y3 y4 y5 y6 y7)) h:=fun α kx=>by
    rw [qg.u9.l]
    unfold qg.u8.f qg.u3.f
    rw [dT (by omega:(i:Int) < (text.length:Int)), cond_true]
   have r1:=r0.ext x
   by_cases c0:0 < x0.len
   ·have hns:0 < ns.length:=by omega
    obtain ⟨w, ew⟩:=int_at r1 (n:=n) hns hlen
    have hneed:(!decide ((x0.len:Int) = 0)) = true:=by rw [decide_eq_false (by omega)]; rfl
    by_cases c1:text[i] = 32
    ·obtain ⟨y, N, ey⟩:=zkq k w true h
     have c1':(text[i].toNat:Int) = 32:=by rw [c1]; rfl
     refine turn y (n + 1) (by unfold NzA; rw [if_pos c1]; exact N.b rfl) N.len (by omega) fun α kx=>?_
     rw [open', qg.u4.f, dT (by omega:(0:Int) < (x0.len:Int)), cond_true, zm rfl hc, dT c1', cond_true, zq hneed, ew, zm rfl hc, decide_eq_true c1', ey, zm rfl hc]
     unfold qg.u6.f
     rw [hw, hwn]
    ·have c1':¬ (text[i].toNat:Int) = 32:=fun e=>c1 ((byte_eq (n:=32) (by decide)).1 e)
     obtain ⟨y, N, ey⟩:=zkq k w false h
     by_cases c2:i = 0
     ·refine turn y (n + 1) (by unfold NzA stB; rw [if_neg c1, if_pos (by rw [decide_eq_true c2]; rfl)]; exact N.l rfl) N.len (by omega) fun α kx=>?_
      rw [open', qg.u4.f, dT (by omega:(0:Int) < (x0.len:Int)), cond_true, zm rfl hc, dF c1', cond_false, dT (by omega:(i:Int) = 0), cond_true, zq hneed, ew, zm rfl hc, decide_eq_false c1', ey, zm rfl hc]
      unfold qg.u6.f
      rw [hw, hwn]
     ·have hlt':i - 1 < text.length:=by omega
      have hc':text[i - 1]? = some text[i - 1]:=List.getElem?_eq_getElem hlt'
      have hw':w64 ((i:Int) - 1) = ((i - 1:Nat):Int):=by rw [jo (by omega) (by omega)]; omega
      by_cases c3:text[i - 1] = 10
      ·have c3':(text[i - 1].toNat:Int) = 10:=by rw [c3]; rfl
       refine turn y (n + 1) (by unfold NzA stB; rw [if_neg c1, if_pos (by rw [hc', c3]; simp)]; exact N.l rfl) N.len (by omega) fun α kx=>?_
       rw [open', qg.u4.f, dT (by omega:(0:Int) < (x0.len:Int)), cond_true, zm rfl hc, dF c1', cond_false, dF (by omega:¬ (i:Int) = 0), cond_false, hw', zm rfl hc', dT c3', cond_true, zq hneed, ew, zm rfl hc, decide_eq_false c1', ey, zm rfl hc]
       unfold qg.u6.f
       rw [hw, hwn]
      ·have c3':¬ (text[i - 1].toNat:Int) = 10:=fun e=>c3 ((byte_eq (n:=10) (by decide)).1 e)
       refine turn [] n (nza_nil _ _) (by simp) (by omega) fun α kx=>?_
       rw [open', qg.u4.f, dT (by omega:(0:Int) < (x0.len:Int)), cond_true, zm rfl hc, dF c1', cond_false, dF (by omega:¬ (i:Int) = 0), cond_false, hw', zm rfl hc', dF c3', cond_false, zm rfl hc]
       unfold qg.u6.f
       rw [hw]
   ·refine turn [] n (nza_nil _ _) (by simp) (by omega) fun α kx=>?_
    rw [open', qg.u4.f, dF (by omega:¬ (0:Int) < (x0.len:Int)), cond_false, zm rfl hc]
    unfold qg.u6.f
    rw [hw]
  ·have:i = text.length:=by omega
   subst this
   refine ⟨[], s, h, by rw [List.drop_length]; exact .nil, x, by rw [List.append_nil]; exact B, fun α kx=>?_⟩
   rw [qg.u9.l]
   unfold qg.u8.f qg.u3.f
   rw [dF (by omega), cond_false]
end Go.Ab.S8
namespace Go.Ab.S8
variable {α:Type} {h:H}
theorem back_run (k:Nat) (hk:400000≤k) {o p m x0:Sl} {g:Gm} {ns:List Int} (r:GmR h o p m g) (hb:GB k g) (r0:Rd h x0 1 (ns.flatMap cI)) :
  ∃ h', ∀ (α:Type) (ret:Bool->M α), qg.f (k + 8) o p m x0 ret h = ret true h':=by
 have x1:Ext h (h.push (gC o p m)):=(Ext.refl h).push _
 have b1:(h.push (gC o p m)).get h.next = some (gC o p m):=jt _
 have n1:(h.push (gC o p m)).next = h.next + 1:=rfl
 obtain ⟨h2, x2, e2⟩:=shown_run (h:=h.push (gC o p m)) k (by omega)
 have c1:∀ {g:H}, Ext (h.push (gC o p m)) g->g.get h.next = some (gC o p m):=fun x=>by rw [x.2 _ (by omega)]; exact b1
 have G2:=r.ext (x1.trans x2)
 have R3:=fun (α:Type) (ret:Int->Int->M α)=>zkh (k + 6) G2 (by omega) (fun l hl=>by have:=hb.l l hl; omega) ret
 have x3:Ext h2 (h2.push (gC o p m)):=(Ext.refl _).push _
 generalize h2.push (gC o p m) = h3 at R3 x3
 have x23:=x2.trans x3
 obtain ⟨h4, x4, e4⟩:=zki (k + 1) (G2.ext x3) (hb.mono (by omega)) (by omega)
 have x24:=x23.trans x4
 by_cases q1:(zdh g).2 = 0
 ·have ok:=zky.1 q1
  rw [if_pos q1] at e4
  obtain ⟨hlen, hne⟩:=zih ok
  have A5:=zei (k + 1) (by omega) (zbc g) h4
  rw [zmy ok] at A5
  obtain ⟨o5, p5, m5, h5, e5, x5, G5⟩:=A5
  have x6:Ext h5 (h5.push (gC o5 p5 m5)):=(Ext.refl h5).push _
  have b6:(h5.push (gC o5 p5 m5)).get h5.next = some (gC o5 p5 m5):=jt _
  have x26:=(x24.trans x5).trans x6
  obtain ⟨h7, x7, e7⟩:=zig (k + 5) (r.ext (x1.trans x26)) (G5.gm.ext x6) (ok.gb.mono (by omega))
  have x27:=x26.trans x7
  -- the bytes
  have g8:(h7.push (.cells [] true)).get h7.next = some (.cells [] true):=jt _
  have n8:(h7.push (.cells [] true)).next = h7.next + 1:=rfl
  have x8:Ext h7 (h7.push (.cells [] true)):=(Ext.refl h7).push _
  have B0:BR (h7.push (.cells [] true)) h7.next ⟨some ⟨h7.next, 0⟩, 0, 0, none⟩ []:=by
   refine ⟨⟨⟨rfl, fun a ha=>?_, fun e=>(by cases e)⟩, fun e=>(by cases e), .inl ⟨rfl, rfl⟩⟩, fun a ha=>(by cases ha; exact Nat.le_refl _), by omega⟩
   cases ha
   exact ⟨(zao g8 (Nat.le_refl _)).trans rfl, by rw [n8]; exact Nat.lt_succ_self _⟩
  obtain ⟨out, s', h9, z, x9, B9, e9⟩:=zny (k + 6) hlen (r0.ext (x1.trans x27)) ⟨h.next, 0⟩ .nilIface true (k + 7) 0 0 (h7.push (.cells [] true)) ⟨some ⟨h7.next, 0⟩, 0, 0, none⟩ [] (Nat.zero_le _) (by omega) (Nat.le_refl _) x8 B0 (by simp) (fun _ a ha=>by cases ha; exact ⟨g8, rfl, rfl⟩)
  rw [List.nil_append] at B9
  have z:Nz true (zbc g) out:=z
  have hol:=B9.len
  have start:∀ (α:Type) (ret:Bool->M α), qg.f (k + 8) o p m x0 ret h = qg.u12.f (k + 7) ⟨h.next, 0⟩ .nilIface true s' (fun y0=>ret y0) h9:=fun α ret=>by
   rw [qg.f]
   unfold qg.u14.f qg.u1.f
   rw [zu rfl, e2, g_o' (c1 x2), g_p' (c1 x2), g_m' (c1 x2), R3, g_o' (c1 x23), g_p' (c1 x23), g_m' (c1 x23), e4, Bool.not_true, cond_false, decide_eq_true q1, decide_eq_false hne, Bool.not_false, dT (rfl:true = true), Bool.not_true, cond_false, cond_false, e5, g_new]
   rw [g_o' (c1 x26), g_p' (c1 x26), g_m' (c1 x26), g_o' b6, g_p' b6, g_m' b6, e7, dT (rfl:g = g), zu rfl]
   unfold qg.u13.f qg.u11.f qg.u2.f qg.u10.f qg.u9.f
   exact e9 α _
  have A10:=zei (k + 1) (by omega) out h9
  by_cases hbig:262144 < out.length
  ·have hp:zcm out = .error (262144, 2):=by
    unfold zcm
    rcases zgs out with ⟨_, hs⟩ | ⟨hl, _⟩ | ⟨hl, _⟩
    ·rw [hs]; rfl
    ·omega
    ·omega
   rw [hp] at A10
   obtain ⟨i10, h10, e10, x10, hi10, hl10, hg10⟩:=A10
   have x11:Ext h10 (h10.push (gC Sl.nil Sl.nil Sl.nil)):=(Ext.refl h10).push _
   have b11:(h10.push (gC Sl.nil Sl.nil Sl.nil)).get h10.next = some (gC Sl.nil Sl.nil Sl.nil):=jt _
   have y:=(x9.trans x10).trans x11
   obtain ⟨h12, x12, e12⟩:=zig (k + 5) (r.ext ((x1.trans x27).trans y)) (gm_nil (h10.push (gC Sl.nil Sl.nil Sl.nil))) (ok.gb.mono (by omega))
   have f1:=fun (α:Type) (ret:Int->Int->M α)=>zkj (k + 5) ret h12 i10 262144 2 (by have:=x11.1; have:=x12.1; omega) (by rw [(x11.trans x12).2 _ hl10]; exact hg10)
   refine ⟨h12.push (.cells [.ptr (some ⟨i10, 0⟩)] true), fun α ret=>?_⟩
   have e11:∀ (K:Bool->M α), asNil .nilIface K = K true:=fun _=>rfl
   rw [start]
   unfold qg.u12.f
   refine (zlq B9 _).trans ?_
   rw [e10, g_new, g_o' (c1 (x27.trans y)), g_p' (c1 (x27.trans y)), g_m' (c1 (x27.trans y)), g_o' b11, g_p' b11, g_m' b11, e12, dT (by omega), cond_true, f1, e11, cond_true, cond_true, dT rfl, cond_true, dT rfl]
  ·have hp:zcm out = .ok g:=zha ok z (by omega)
   rw [hp] at A10
   obtain ⟨o10, p10, m10, h10, e10, x10, G10⟩:=A10
   have x11:Ext h10 (h10.push (gC o10 p10 m10)):=(Ext.refl h10).push _
   have b11:(h10.push (gC o10 p10 m10)).get h10.next = some (gC o10 p10 m10):=jt _
   have y:=(x9.trans x10).trans x11
   obtain ⟨h12, x12, e12⟩:=zig (k + 5) (r.ext ((x1.trans x27).trans y)) (G10.gm.ext x11) (ok.gb.mono (by omega))
   refine ⟨h12, fun α ret=>?_⟩
   have e11:∀ (K:Bool->M α), asNil .nilIface K = K true:=fun _=>rfl
   rw [start]
   unfold qg.u12.f
   refine (zlq B9 _).trans ?_
   rw [e10, g_new, g_o' (c1 (x27.trans y)), g_p' (c1 (x27.trans y)), g_m' (c1 (x27.trans y)), g_o' b11, g_p' b11, g_m' b11, e12, dF (by omega), cond_false, e11, cond_true, cond_true, e11, cond_true, dT rfl]
 ·rw [if_neg q1] at e4
  refine ⟨h4, fun α ret=>?_⟩
  rw [qg.f]
  unfold qg.u14.f qg.u1.f
  rw [zu rfl, e2, g_o' (c1 x2), g_p' (c1 x2), g_m' (c1 x2), R3, g_o' (c1 x23), g_p' (c1 x23), g_m' (c1 x23), e4, Bool.not_true, cond_false, decide_eq_false q1]
  rfl
theorem PagesBack_law {o p m x0:Sl} {g:Gm} {ns:List Int} (r:GmR h o p m g) (hb:GN g) (r0:Rd h x0 1 (ns.flatMap cI)) (_:ns.length≤17592186044416):∃ k h', ∀ (α:Type) (ret:Bool->M α), qg.f (k + 1) o p m x0 ret h = ret true h':=by
 obtain ⟨h', e⟩:=back_run (400000 + (g.ow.length + g.pr.length + g.mv.length + (g.mv.map List.length).sum + 1)) (by omega) r (hb.gb.mono (by omega)) r0
 exact ⟨_, h', e⟩
end Go.Ab.S8
