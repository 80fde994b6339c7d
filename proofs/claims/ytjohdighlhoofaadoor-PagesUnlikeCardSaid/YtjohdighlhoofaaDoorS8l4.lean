import Derived.Test.YtjohdighlhoofaaDoorS8sx
set_option linter.unusedVariables false
set_option linter.unusedSimpArgs false
namespace Go.Ab.S8
theorem zfl {kind:Int} {text:List UInt8} {t:Tok} {r:List Tok} (h0:kind ≠ 0) (hk:t.kind = kind) (ht:text = [] ∨ t.text = text):yt kind text ⟨t :: r, none⟩ = (t.num, ⟨r, none⟩):=by
 rw [zck (s:=⟨t :: r, none⟩) rfl ⟨hk, ht⟩, if_neg h0]; rfl
theorem zff {a b e:Int} {t:Tok} {r:List Tok} (hk:t.kind = 4) (ha:a≤t.num) (hb:t.num≤b):numP a b e ⟨t :: r, none⟩ = (t.num, ⟨r, none⟩):=by
 unfold numP
 rw [if_neg (fun c=>by have h2:t.num < a ∨ b < t.num:=c.2; omega)]
 exact zfl (by decide) hk (.inl rfl)
theorem zed:∀ {b:List Tok} {t:Tok} {r:List Tok}, (∀ t ∈ b, t.kind = 1)->t.kind ≠ 1->zba (b ++ t :: r) = t :: r
 | [], t, r, _, ht=>by rw [List.nil_append, zba, if_neg ht]
 | u :: b, t, r, h, ht=>by rw [List.cons_append, zba, if_pos (h u List.mem_cons_self)]; exact zed (fun x hx=>h x (List.mem_cons_of_mem _ hx)) ht
theorem mvs_fwd (n:Int):∀ (ms:List Tok) (f:Nat) (acc:List Int) (last:Int) (e:Tok) (x:List Tok), (∀ t ∈ ms, t.kind = 4)->yv n last (ms.map Tok.num) = true->e.kind ≠ 4->ms.length < f ->
  mvsP n f acc last ⟨ms ++ e :: x, none⟩ = (acc ++ ms.map Tok.num, ⟨e :: x, none⟩)
 | [], f + 1, acc, last, e, x, _, _, he, _=>by
  rw [mvsP, if_neg (fun c=>he c.2)]; simp
 | t :: ms, f + 1, acc, last, e, x, hm, hb, he, hf=>by
  simp only [List.map_cons, yv, Bool.and_eq_true, decide_eq_true_eq] at hb
  have hk:=hm t List.mem_cons_self
  rw [mvsP, if_pos ⟨rfl, hk⟩, List.cons_append, zff hk (by omega) (by omega)]
  dsimp only
  rw [mvs_fwd n ms f _ _ e x (fun u hu=>hm u (List.mem_cons_of_mem _ hu)) hb.2 he (by simpa using hf)]
  simp
theorem end_fwd {rest l':List Tok} (h:(rest = l' ∧ ∃ e x, rest = e :: x ∧ e.kind = 0) ∨ ∃ e, rest = e :: l' ∧ e.kind = 1):endP ⟨rest, none⟩ = ⟨l', none⟩:=by
 unfold endP
 rcases h with ⟨rfl, e, x, rfl, he⟩ | ⟨e, rfl, he⟩
 ·rw [if_pos (show (⟨e :: x, none⟩:St).hd.kind = 0 from he)]
 ·rw [if_neg (show ¬ (⟨e :: l', none⟩:St).hd.kind = 0 by show ¬ e.kind = 0; omega), zfl (by decide) he (.inl rfl)]
theorem row_fwd {n i:Int} {l l':List Tok} {r:Rw} (h:RowL n i l l' r):rowP n i ⟨l, none⟩ = (r, ⟨l', none⟩):=by
 obtain ⟨b, ti, to', tp, tc, ms, rest, rfl, hb, ⟨i1, i2⟩, ⟨o1, o2⟩, ⟨p1, p2⟩, ⟨c1, c2⟩, m1, m2, hr⟩:=h.ex
 have ok:=h.ok
 have e1:yb ⟨b ++ (ti :: to' :: tp :: tc :: (ms ++ rest)), none⟩ = ⟨ti :: to' :: tp :: tc :: (ms ++ rest), none⟩:=by
  unfold yb
  dsimp only
  rw [zed hb (by omega)]
 have ho:=ok.o
 have hp:=ok.p
 have hre:∃ e x, rest = e :: x ∧ e.kind ≠ 4:=by
  rcases hr with ⟨_, e, x, h1, h2⟩ | ⟨e, h1, h2⟩
  ·exact ⟨e, x, h1, by omega⟩
  ·exact ⟨e, _, h1, by omega⟩
 obtain ⟨e, x, rfl, he⟩:=hre
 have e2:zbh n ⟨ms ++ e :: x, none⟩ = (r.m, ⟨e :: x, none⟩):=by
  unfold zbh
  rw [mvs_fwd n ms _ [] (-1) e x m1 (by rw [m2]; exact ok.m) he (by simp; omega), List.nil_append, m2]
  unfold zhp
  rw [if_neg (fun c=>ok.ne c.1)]
 unfold rowP
 dsimp only
 rw [e1, zff i1 (by omega) (by omega)]
 dsimp only
 rw [zff o1 (by omega) (by omega)]
 dsimp only
 rw [zff p1 (by omega) (by omega)]
 dsimp only
 rw [zfl (by decide) c1 (.inr c2)]
 dsimp only
 rw [e2]
 dsimp only
 rw [end_fwd hr, o2, p2]
theorem rows_fwd {n:Int}:∀ {i:Int} {l l':List Tok} {rs:List Rw}, RowsL n i l rs l'->∀ g, zbk n rs.length i g ⟨l, none⟩ = (rs.foldl Gm.add g, ⟨l', none⟩):=by
 intro i l l' rs h
 induction h with
 | nil=>intro g; rfl
 | cons R _ ih=>
  intro g
  rw [List.length_cons, zbk, if_pos (show (none:Option (Int × Int)).isNone = true from rfl), row_fwd R]
  dsimp only
  rw [ih]
  rfl
theorem head_fwd {ts b rest l1:List Tok} {tg tn:Tok} (hts:ts = b ++ (tg :: tn :: rest)) (hb:∀ t ∈ b, t.kind = 1) (hg:tg.kind = 2 ∧ tg.text = [103, 97, 109, 101]) (hn:tn.kind = 4) (h1:1≤tn.num) (h2:tn.num≤200)
  (hr:(rest = l1 ∧ ∃ e x, rest = e :: x ∧ e.kind = 0) ∨ ∃ e, rest = e :: l1 ∧ e.kind = 1):yk ⟨ts, none⟩ = (tn.num, ⟨l1, none⟩):=by
 have e1:yb ⟨ts, none⟩ = ⟨tg :: tn :: rest, none⟩:=by
  unfold yb
  dsimp only
  rw [hts, zed hb (by omega)]
 unfold yk
 dsimp only
 rw [e1, zfl (by decide) hg.1 (.inr hg.2)]
 dsimp only
 rw [zff hn h1 h2]
 dsimp only
 rw [end_fwd hr]
theorem page_fwd {ts:List Tok} {g:Gm} (h:PageL ts g):pageP ts = .ok g:=by
 obtain ⟨b, tg, tn, rest, l1, rs, l2, e, hts, hb, hg, ⟨n1, n2⟩, hn, hr, R, rfl, ⟨b', hl2, hb'⟩, he⟩:=h.ex
 unfold pageP
 rw [head_fwd hts hb hg n1 (by omega) (by omega) hr]
 dsimp only
 rw [n2, show ((rs.length:Int)).toNat = rs.length from Int.toNat_natCast _, rows_fwd R]
 unfold zkt
 dsimp only
 have e2:yb ⟨l2, none⟩ = ⟨[e], none⟩:=by
  unfold yb
  dsimp only
  rw [hl2, zed hb' (by omega)]
 rw [e2, zck (s:=⟨[e], none⟩) rfl ⟨he, .inl rfl⟩, if_pos rfl]
 dsimp only
 rw [zms]
 rfl
structure RowT (i:Int) (ts:List Tok) (r:Rw):Prop where
 ex:∃ b ti to' tp tc ms, ts = b ++ (ti :: to' :: tp :: tc :: ms) ∧ (∀ t ∈ b, t.kind = 1) ∧ (ti.kind = 4 ∧ ti.num = i) ∧ (to'.kind = 4 ∧ to'.num = r.o) ∧ (tp.kind = 4 ∧ tp.num = r.p) ∧ (tc.kind = 5 ∧ tc.text = [58]) ∧ (∀ t ∈ ms, t.kind = 4) ∧ ms.map Tok.num = r.m
theorem RowT.rowL {n i:Int} {ts rest:List Tok} {r:Rw} (h:RowT i ts r) (ok:RowOk n r.o r.p r.m) {f:Tok} (hf:f.kind = 1):RowL n i (ts ++ f :: rest) rest r:=by
 obtain ⟨b, ti, to', tp, tc, ms, rfl, h1, h2, h3, h4, h5, h6, h7⟩:=h.ex
 exact ⟨⟨b, ti, to', tp, tc, ms, f :: rest, by simp, h1, h2, h3, h4, h5, h6, h7, .inr ⟨f, rfl, hf⟩⟩, ok⟩
theorem zag {w:List UInt8} (hne:w ≠ []) (hp:zgf w):∀ st, jq st w = false:=by
 induction w with
 | nil=>exact absurd rfl hne
 | cons c w ih=>
  intro st
  rw [jq, decide_eq_false (hp c List.mem_cons_self).2]
  cases w with
  | nil=>rfl
  | cons d w=>exact ih (by simp) (fun b hb=>hp b (List.mem_cons_of_mem _ hb)) _
theorem row_scan {n i:Nat} {o p:Int} {l:List Int} (hi:i < 1000) (hn:n≤200) (ok:RowOk n o p l) {out:List UInt8} (h:Nz true (zfb i o p ++ l.flatMap mvS) out) :
  jq true (zfb i o p ++ l.flatMap mvS) = false ∧ ∀ P R, zej R->∃ ts, Sx P (out ++ R) ts (P ++ out) R ∧ RowT i ts ⟨o, p, l⟩:=by
 have ho:=ok.o
 have hp:=ok.p
 obtain ⟨on, rfl⟩:=Int.eq_ofNat_of_zero_le ho.1
 obtain ⟨pn, rfl⟩:=Int.eq_ofNat_of_zero_le hp.1
 have hl:∀ v ∈ l, 0≤v ∧ v < 1000:=fun v hv=>by have:=zcx ok.m v hv; omega
 rw [show zfb i (on:Int) (pn:Int) ++ l.flatMap mvS = decD i ++ ((32 :: decD on) ++ ((32 :: decD pn) ++ ([32, 58] ++ l.flatMap mvS))) by
  unfold zfb; simp [Int.toNat_natCast]] at h ⊢
 obtain ⟨o1, x1, rfl, h1, h⟩:=h.split
 rw [zag (zdk i hi).2.2.2 (zaj i hi)] at h
 obtain ⟨o2, x2, rfl, h2, h⟩:=h.split
 have q2:jq false (32 :: decD on) = false:=by rw [jq]; exact zag (zdk on (by omega)).2.2.2 (zaj on (by omega)) _
 rw [q2] at h
 obtain ⟨o3, x3, rfl, h3, h⟩:=h.split
 have q3:jq false (32 :: decD pn) = false:=by rw [jq]; exact zag (zdk pn (by omega)).2.2.2 (zaj pn (by omega)) _
 rw [q3] at h
 obtain ⟨o4, o5, rfl, h4, h5⟩:=h.split
 rw [show jq false [32, 58] = false from rfl] at h5
 obtain ⟨add, rfl, ha, _⟩:=h1.word (zdk i hi).2.2.2 (zaj i hi)
 obtain ⟨s2a, s2⟩:=zkr (by omega) h2
 obtain ⟨s3a, s3⟩:=zkr (by omega) h3
 obtain ⟨s4a, s4⟩:=sp_colon h4
 obtain ⟨s5z, s5a, s5⟩:=sp_nums hl h5
 refine ⟨?_, fun P R hR=>?_⟩
 ·rw [zae, zae, zae, zae, zag (zdk i hi).2.2.2 (zaj i hi), q2, q3]
  exact s5z
 ·obtain ⟨b, b1, b2⟩:=ha P (decD i ++ (o2 ++ (o3 ++ (o4 ++ (o5 ++ R)))))
  have t1:=Sx.num (P ++ add) i hi (o2 ++ (o3 ++ (o4 ++ (o5 ++ R)))) (s2a _)
  obtain ⟨t2, u2, k2, v2⟩:=s2 (P ++ add ++ decD i) (o3 ++ (o4 ++ (o5 ++ R))) (s3a _)
  obtain ⟨t3, u3, k3, v3⟩:=s3 (P ++ add ++ decD i ++ o2) (o4 ++ (o5 ++ R)) (s4a _)
  obtain ⟨t4, u4, k4, v4⟩:=s4 (P ++ add ++ decD i ++ o2 ++ o3) (o5 ++ R)
  obtain ⟨ms, u5, k5, v5⟩:=s5 (P ++ add ++ decD i ++ o2 ++ o3 ++ o4) R hR
  refine ⟨_, by have:=((((b1.trans t1).trans u2).trans u3).trans u4).trans u5; simpa [List.append_assoc] using this, ⟨b, _, t2, t3, t4, ms, rfl, b2, ⟨rfl, rfl⟩, ⟨k2, v2⟩, ⟨k3, v3⟩, ⟨k4, v4⟩, k5, v5⟩⟩
theorem head_scan {n:Nat} (hn:n < 1000) {out:List UInt8} (h:Nz true ([103, 97, 109, 101] ++ (32 :: decD n)) out) :
  jq true ([103, 97, 109, 101] ++ (32 :: decD n)) = false ∧ ∀ P R, zej R->∃ b tg tn, Sx P (out ++ R) (b ++ [tg, tn]) (P ++ out) R ∧ (∀ t ∈ b, t.kind = 1) ∧ (tg.kind = 2 ∧ tg.text = [103, 97, 109, 101]) ∧ tn.kind = 4 ∧ tn.num = (n:Int):=by
 have hp:zgf [103, 97, 109, 101]:=by intro b hb; simp at hb; rcases hb with rfl | rfl | rfl | rfl <;> decide
 obtain ⟨o1, o2, rfl, h1, h2⟩:=h.split
 rw [zag (by simp) hp] at h2
 have q2:jq false (32 :: decD n) = false:=by rw [jq]; exact zag (zdk n hn).2.2.2 (zaj n hn) _
 obtain ⟨add, rfl, ha, _⟩:=h1.word (by simp) hp
 obtain ⟨bl, rfl, hb, _⟩:=h2.sp (zaj n hn)
 obtain ⟨s2a, s2⟩:=zkr hn h2
 refine ⟨by rw [zae, zag (by simp) hp]; exact q2, fun P R hR=>?_⟩
 obtain ⟨b, b1, b2⟩:=ha P ([103, 97, 109, 101] ++ (bl ++ 32 :: decD n ++ R))
 have t1:=Sx.name (P ++ add) 103 [97, 109, 101] (bl ++ 32 :: decD n ++ R) _ rfl (kd:=2) (by decide) (.inl rfl) (by decide) (by decide) (fun c s e=>by
  rw [List.append_assoc] at e
  cases bl with
  | nil=>cases e; rfl
  | cons d bl=>
   cases e
   have:=hb c List.mem_cons_self
   simp only [yp, Bool.or_eq_true, decide_eq_true_eq] at this
   have e1:c = 32 ∨ c = 9:=by
    rcases this with h | h
    ·exact .inl (UInt8.toNat_inj.1 (show c.toNat = 32 by omega))
    ·exact .inr (UInt8.toNat_inj.1 (show c.toNat = 9 by omega))
   rcases e1 with rfl | rfl <;> rfl)
 obtain ⟨t2, u2, k2, v2⟩:=s2 (P ++ add ++ [103, 97, 109, 101]) R hR
 refine ⟨b, _, t2, by have:=(b1.trans t1).trans u2; simpa [List.append_assoc] using this, b2, ⟨rfl, rfl⟩, k2, v2⟩
def lsS (i:Nat) (rs:List Rw):List UInt8:=zbq i (rs.map Rw.o) (rs.map Rw.p) (rs.map Rw.m)
theorem lsS_cons (i:Nat) (r:Rw) (rs:List Rw):lsS i (r :: rs) = (zfb i r.o r.p ++ r.m.flatMap mvS) ++ ([10] ++ lsS (i + 1) rs):=by
 show zis i r.o r.p r.m ++ lsS (i + 1) rs = _
 unfold zis
 simp
theorem RowsL.app {n:Int} {i:Int} {l l' l'':List Tok} {rs rs':List Rw} (h:RowsL n i l rs l'):RowsL n (i + rs.length) l' rs' l''->RowsL n i l (rs ++ rs') l'':=by
 induction h with
 | nil=>intro g; simpa using g
 | cons R _ ih=>
  intro g
  refine .cons R (ih ?_)
  simp only [List.length_cons] at g
  rw [show ∀ (i:Int) (k:Nat), i + 1 + (k:Int) = i + ((k + 1:Nat):Int) by intro i k; omega]
  exact g
theorem ziy {n:Nat} (hn:n≤200):∀ (rs:List Rw) (i:Nat) {out:List UInt8}, (∀ r ∈ rs, RowOk n r.o r.p r.m)->i + rs.length≤1000->Nz true (lsS i rs) out ->
  jq true (lsS i rs) = true ∧ ∀ P R, ∃ ts, Sx P (out ++ R) ts (P ++ out) R ∧ ∀ rest, RowsL n i (ts ++ rest) rs rest
 | [], i, out, _, _, h=>by
  cases h
  exact ⟨rfl, fun P R=>⟨[], by simpa using Sx.nil P R, fun rest=>.nil⟩⟩
 | r :: rs, i, out, hr, hi, h=>by
  rw [lsS_cons] at h ⊢
  simp only [List.length_cons] at hi
  obtain ⟨o1, x1, rfl, h1, h⟩:=h.split
  obtain ⟨k1, k2⟩:=row_scan (by omega) hn (hr r List.mem_cons_self) h1
  rw [k1] at h
  obtain ⟨o2, o3, rfl, h2, h3⟩:=h.split
  obtain rfl:=h2.feed
  rw [show jq false [10] = true from rfl] at h3
  obtain ⟨g1, g2⟩:=ziy hn rs (i + 1) (fun r hr'=>hr r (List.mem_cons_of_mem _ hr')) (by omega) h3
  refine ⟨by rw [zae, zae, k1]; exact g1, fun P R=>?_⟩
  obtain ⟨t1, s1, R1⟩:=k2 P ([10] ++ o3 ++ R) (by
   rw [List.append_assoc]; exact zif _)
  have s2:=Sx.line (P ++ o1) (o3 ++ R)
  obtain ⟨t3, s3, R3⟩:=g2 (P ++ o1 ++ [10]) R
  refine ⟨_, by
   have:=(s1.trans (q:=P ++ o1) (us:=_) (v:=_) (by simpa using s2)).trans s3
   simpa [List.append_assoc] using this, fun rest=>?_⟩
  have:=R1.rowL (n:=n) (rest:=t3 ++ rest) (hr r List.mem_cons_self) (f:=⟨1, ((P ++ o1).length:Nat), [10], 0⟩) rfl
  have e:((i:Nat):Int) + 1 = ((i + 1:Nat):Int):=by omega
  have hc:RowsL n i (t1 ++ ⟨1, ((P ++ o1).length:Nat), [10], 0⟩ :: (t3 ++ rest)) (r :: rs) rest:=.cons this (by rw [e]; exact R3 rest)
  simpa [List.append_assoc] using hc
theorem ok_rows {g:Gm} (h:Ok g):∃ rs, g = zbv rs ∧ rs.length = g.mv.length ∧ ∀ r ∈ rs, RowOk g.mv.length r.o r.p r.m:=by
 have key:∀ (os ps:List Int) (ls:List (List Int)), os.length = ls.length->ps.length = ls.length->∃ rs:List Rw, rs.map Rw.o = os ∧ rs.map Rw.p = ps ∧ rs.map Rw.m = ls:=by
  intro os
  induction os with
  | nil=>intro ps ls h1 h2; exact ⟨[], rfl, by cases ls <;> simp_all, by cases ls <;> simp_all⟩
  | cons o os ih=>
   intro ps ls h1 h2
   cases ls with
   | nil=>simp at h1
   | cons l ls=>
    cases ps with
    | nil=>simp at h2
    | cons p ps=>
     obtain ⟨rs, e1, e2, e3⟩:=ih ps ls (by simpa using h1) (by simpa using h2)
     exact ⟨⟨o, p, l⟩ :: rs, by simp [e1], by simp [e2], by simp [e3]⟩
 obtain ⟨rs, e1, e2, e3⟩:=key g.ow g.pr g.mv h.l1 h.l2
 refine ⟨rs, by unfold zbv; rw [e1, e2, e3], by rw [← e3]; simp, fun r hr=>?_⟩
 obtain ⟨i, hi⟩:=List.getElem?_of_mem hr
 exact h.row i _ _ _ (by rw [← e1, List.getElem?_map, hi]; rfl) (by rw [← e2, List.getElem?_map, hi]; rfl) (by rw [← e3, List.getElem?_map, hi]; rfl)
theorem zlu (rs:List Rw):zaz (zbv rs) = ([103, 97, 109, 101] ++ (32 :: decD rs.length)) ++ ([10] ++ lsS 0 rs):=by
 unfold zaz topS zbv lsS
 simp
theorem scan_all {s:List UInt8} {ts:List Tok} (h:Sx [] s ts s []) (hl:s.length≤262144):zcs s = .ok (ts ++ [⟨0, (s.length:Nat), [], 0⟩]):=by
 have:=h.2
 rw [List.nil_append] at this
 exact this.okF hl
theorem zls {g:Gm} (ok:Ok g) {out:List UInt8} (h:Nz true (zaz g) out) (hl:out.length≤262144):zep out = .ok g:=by
 obtain ⟨rs, e, hlen, hr⟩:=ok_rows ok
 rw [← hlen] at hr
 have n1:=ok.n1
 have n2:=ok.n2
 rw [e, zlu] at h
 obtain ⟨o1, x1, rfl, h1, h⟩:=h.split
 obtain ⟨k1, k2⟩:=head_scan (by omega) h1
 rw [k1] at h
 obtain ⟨o2, o3, rfl, h2, h3⟩:=h.split
 obtain rfl:=h2.feed
 rw [show jq false [10] = true from rfl] at h3
 obtain ⟨_, g2⟩:=ziy (by omega:rs.length≤200) rs 0 hr (by omega) h3
 obtain ⟨b, tg, tn, s1, b1, b2, b3, b4⟩:=k2 [] ([10] ++ o3) (zif _)
 have s2:=Sx.line o1 o3
 obtain ⟨t3, s3, R3⟩:=g2 (o1 ++ [10]) []
 have S:Sx [] (o1 ++ ([10] ++ o3)) (b ++ [tg, tn] ++ [⟨1, (o1.length:Nat), [10], 0⟩] ++ t3) (o1 ++ ([10] ++ o3)) []:=by
  have:=(s1.trans (by simpa using s2)).trans (by simpa using s3)
  simpa [List.append_assoc] using this
 unfold zep
 rw [scan_all S hl]
 dsimp only
 refine page_fwd ⟨b, tg, tn, ⟨1, (o1.length:Nat), [10], 0⟩ :: (t3 ++ [⟨0, ((o1 ++ ([10] ++ o3)).length:Nat), [], 0⟩]), t3 ++ [⟨0, ((o1 ++ ([10] ++ o3)).length:Nat), [], 0⟩], rs, [⟨0, ((o1 ++ ([10] ++ o3)).length:Nat), [], 0⟩], _, by simp [List.append_assoc], b1, b2, ⟨b3, b4⟩, ⟨by omega, by omega⟩, .inr ⟨⟨1, (o1.length:Nat), [10], 0⟩, rfl, rfl⟩, R3 _, e, ⟨[], rfl, fun t ht=>(by cases ht)⟩, rfl⟩
theorem nz_refl:∀ (s:List UInt8) (st:Bool), Nz st s s
 | [], st=>.nil
 | c :: s, st=>by
  have:=Nz.cons (st:=st) (c:=c) (add:=[]) (by
   unfold NzA
   split
   ·intro b hb; cases hb
   ·split
    ·exact zmn fun b hb=>by cases hb
    ·rfl) (nz_refl s (decide (c = 10)))
  simpa using this
theorem zgq {g:Gm} (ok:Ok g):zep (zaz g) = .ok g:=zls ok (nz_refl _ _) (by have:=(zcu ok).1; omega)
end Go.Ab.S8
namespace Go.Ab.S8
variable {α:Type} {h:H}
theorem print_inj {a b:Gm} (ha:Ok a) (hb:Ok b):zaz a = zaz b ↔ a = b:=by
 constructor
 ·intro e
  have h1:=zgq ha
  rw [e, zgq hb] at h1
  cases h1; rfl
 ·intro e; rw [e]
theorem znu (k:Nat) (hk:300100≤k) {o1 p1 m1 o2 p2 m2:Sl} {a b:Gm} (r1:GmR h o1 p1 m1 a) (r2:GmR h o2 p2 m2 b) (g1:GB k a) (g2:GB k b) :
  ∃ h', ∀ (α:Type) (ret:Bool->M α), qs.f (k + 8) o1 p1 m1 o2 p2 m2 ret h = ret true h':=by
 have x1:Ext h (h.push (gC o1 p1 m1)):=(Ext.refl h).push _
 have b1:(h.push (gC o1 p1 m1)).get h.next = some (gC o1 p1 m1):=yd _
 have n1:(h.push (gC o1 p1 m1)).next = h.next + 1:=rfl
 have x2:Ext (h.push (gC o1 p1 m1)) ((h.push (gC o1 p1 m1)).push (gC o2 p2 m2)):=(Ext.refl _).push _
 have b2:((h.push (gC o1 p1 m1)).push (gC o2 p2 m2)).get (h.push (gC o1 p1 m1)).next = some (gC o2 p2 m2):=yd _
 have n2:((h.push (gC o1 p1 m1)).push (gC o2 p2 m2)).next = h.next + 2:=rfl
 obtain ⟨h3, x3, e3⟩:=shown_run (h:=(h.push (gC o1 p1 m1)).push (gC o2 p2 m2)) k hk
 have x13:=(x1.trans x2).trans x3
 obtain ⟨h4, x4, e4⟩:=zge (k + 1) (r1.ext x13) (g1.mono (by omega)) (by omega)
 obtain ⟨h5, x5, e5⟩:=zge (k + 1) (r2.ext (x13.trans x4)) (g2.mono (by omega)) (by omega)
 have x15:=(x13.trans x4).trans x5
 obtain ⟨h6, x6, e6⟩:=same_run (k + 5) (r1.ext x15) (r2.ext x15) (g1.mono (by omega))
 have c1:∀ {g:H}, Ext ((h.push (gC o1 p1 m1)).push (gC o2 p2 m2)) g->g.get h.next = some (gC o1 p1 m1):=fun x=>by rw [(x2.trans x).2 _ (by omega)]; exact b1
 have c2:∀ {g:H}, Ext ((h.push (gC o1 p1 m1)).push (gC o2 p2 m2)) g->g.get (h.push (gC o1 p1 m1)).next = some (gC o2 p2 m2):=fun x=>by rw [x.2 _ (by omega)]; exact b2
 have start:∀ (α:Type) (ret:Bool->M α), qs.f (k + 8) o1 p1 m1 o2 p2 m2 ret h = _:=fun α ret=>by
  rewrite [qs.f, qs.u1.f, zw rfl, zw rfl, e3, g_o' (c1 x3), g_p' (c1 x3), g_m' (c1 x3), e4, g_o' (c2 (x3.trans x4)), g_p' (c2 (x3.trans x4)), g_m' (c2 (x3.trans x4)), e5, Bool.not_true, cond_false]
  exact rfl
 by_cases q1:(zcd a).2 = 0
 ·have k1:=zgb.1 q1
  by_cases q2:(zcd b).2 = 0
  ·have k2:=zgb.1 q2
   refine ⟨h6, fun α ret=>?_⟩
   rw [start, if_pos q1, if_pos q2, dF (zcu k1).2, cond_false, dF (zcu k2).2, cond_false]
   have y:=(x3.trans x4).trans x5
   rw [g_o' (c1 y), g_p' (c1 y), g_m' (c1 y), g_o' (c2 y), g_p' (c2 y), g_m' (c2 y), e6, dT]
   rw [decide_eq_decide]; exact print_inj k1 k2
  ·refine ⟨h5, fun α ret=>?_⟩
   rw [start, if_pos q1, if_neg q2, dF (zcu k1).2, cond_false, dT rfl, cond_true]
 ·refine ⟨h5, fun α ret=>?_⟩
  rw [start, if_neg q1, dT rfl, cond_true]
theorem PagesUnlike_law {o1 p1 m1 o2 p2 m2:Sl} {a b:Gm} (r1:GmR h o1 p1 m1 a) (g1:GN a) (r2:GmR h o2 p2 m2 b) (g2:GN b):∃ k h', ∀ (α:Type) (ret:Bool->M α), qs.f (k + 1) o1 p1 m1 o2 p2 m2 ret h = ret true h':=by
 obtain ⟨h', e⟩:=znu (300100 + ((a.ow.length + a.pr.length + a.mv.length + (a.mv.map List.length).sum + 1) + (b.ow.length + b.pr.length + b.mv.length + (b.mv.map List.length).sum + 1))) (by omega) r1 r2 (g1.gb.mono (by omega)) (g2.gb.mono (by omega))
 exact ⟨_, h', e⟩
theorem GmO.gm {h:H} {n:Nat} {o p m:Sl} {g:Gm} (G:GmO h n o p m g):GmR h o p m g:=by
 obtain ⟨q3, b, rows, _, B⟩:=G
 exact B.gm
end Go.Ab.S8
