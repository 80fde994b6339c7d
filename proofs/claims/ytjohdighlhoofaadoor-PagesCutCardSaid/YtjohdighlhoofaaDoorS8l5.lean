import Derived.Test.YtjohdighlhoofaaDoorS8l3
set_option linter.unusedVariables false
set_option linter.unusedSimpArgs false
namespace Go.Ab.S8
theorem zde:∀ n, n < 1000->zgp (decD n) = false ∧ numF (decD n) = (n:Int) ∧ (decD n).all jo = true ∧ (decD n) ≠ []:=by decide +kernel
theorem znr {c:UInt8} (h:jo c = true):jb c.toNat = 4:=by
 simp only [jo, Bool.and_eq_true, decide_eq_true_eq] at h
 unfold jb
 rw [if_neg (by omega), if_neg (by omega), if_neg (by omega), if_pos (by omega)]
theorem Sc.num (p:List UInt8) {w r:List UInt8} (hne:w ≠ []) (hd:w.all jo = true) (hb:zgp w = false) (hr:∀ b s, r = b :: s->jo b = false) :
  Sc (p ++ (w ++ r)) p.length [⟨4, p.length, w, numF w⟩] (p.length + w.length):=by
 cases w with
 | nil=>exact absurd rfl hne
 | cons c w=>
  rw [List.all_cons, Bool.and_eq_true] at hd
  have hk:=znr hd.1
  have hall:∀ b ∈ w, jo b = true:=List.all_eq_true.1 hd.2
  have hg:(p ++ ((c :: w) ++ r))[p.length]? = some c:=by simp
  have htw:(w ++ r).takeWhile jo = w:=by
   cases r with
   | nil=>rw [List.append_nil]; exact yv jo w hall
   | cons b s=>rw [yn jo b s (hr b s rfl)]; exact yv jo w hall
  have hword:zy (p ++ ((c :: w) ++ r)) p.length c = c :: w:=by
   unfold zy
   rw [zhu, hk]
   unfold zas
   rw [if_pos rfl]
   rw [List.cons_append, List.drop_succ_cons, List.drop_zero, htw, Nat.add_comm, List.take_succ_cons, List.take_left]
  have ht:tokF (p ++ ((c :: w) ++ r)) p.length c = (⟨4, p.length, c :: w, numF (c :: w)⟩, 0):=by
   unfold tokF
   rw [hword, hk, if_neg (by omega), if_neg (by omega), if_pos rfl, hb]
   rfl
  have h1:=hd.1
  simp only [jo, Bool.and_eq_true, decide_eq_true_eq] at h1
  have hbl:yt c = false:=by
   unfold yt
   rw [decide_eq_false (by omega), decide_eq_false (by omega)]; rfl
  have hm:zaq c = false:=decide_eq_false (by omega)
  have:=Sc.tok (text:=p ++ ((c :: w) ++ r)) (n:=p.length) (m:=p.length + (c :: w).length) (ts:=[]) hg hbl hm (by rw [ht]) (by
   rw [hword]
   exact .nil (by simp))
  rw [ht] at this
  exact this
theorem Sx.num (p:List UInt8) (n:Nat) (hn:n < 1000) (r:List UInt8) (hr:∀ b s, r = b :: s->jo b = false):Sx p (decD n ++ r) [⟨4, p.length, decD n, (n:Int)⟩] (p ++ decD n) r:=by
 obtain ⟨h1, h2, h3, h4⟩:=zde n hn
 refine ⟨by simp, ?_⟩
 have:=Sc.num p h4 h3 h1 hr
 rw [h2] at this
 rw [List.length_append]
 exact this
theorem Sx.line (p r:List UInt8):Sx p (10 :: r) [⟨1, p.length, [10], 0⟩] (p ++ [10]) r:=⟨by simp, by have:=Sc.line p r; simpa using this⟩
theorem Sx.nil (p r:List UInt8):Sx p r [] p r:=⟨rfl, .nil (by simp)⟩
theorem Sx.blank (p r:List UInt8) {c:UInt8} (h:yt c = true):Sx p (c :: r) [] (p ++ [c]) r:=⟨by simp, by
 rw [List.length_append]
 exact .blank (get_at p c r) h (.nil (by simp))⟩
theorem Sx.rem (p w r:List UInt8) (hw:∀ b ∈ w, b ≠ 10):Sx p (35 :: (w ++ 10 :: r)) [] (p ++ 35 :: w) (10 :: r):=by
 refine ⟨by simp, ?_⟩
 have hg:(p ++ 35 :: (w ++ 10 :: r))[p.length]? = some 35:=by simp
 have hrm:remF ((p ++ 35 :: (w ++ 10 :: r)).drop p.length) = (35 :: w).length:=by
  rw [zhu]
  unfold remF
  have:(35 :: (w ++ 10 :: r)) = (35 :: w) ++ 10 :: r:=rfl
  rw [this, yn _ 10 r (by decide), yv _ _ (fun b hb=>by
   rcases List.mem_cons.1 hb with rfl | hb
   ·decide
   ·simpa using hw b hb)]
 rw [List.length_append]
 refine .rem hg rfl rfl ?_
 rw [hrm]
 exact .nil (by simp)
def zil (a:List UInt8):Prop:=∀ b ∈ a, yt b = true
theorem Sx.blanks:∀ (a p r:List UInt8), zil a->Sx p (a ++ r) [] (p ++ a) r
 | [], p, r, _=>by simpa using Sx.nil p r
 | b :: a, p, r, h=>by
  have h1:=Sx.blank p (a ++ r) (h b List.mem_cons_self)
  have h2:=Sx.blanks a (p ++ [b]) r fun c hc=>h c (List.mem_cons_of_mem _ hc)
  have:=h1.trans h2
  simpa using this
def LineN (a:List UInt8):Prop:=∀ p r, ∃ ts, Sx p (a ++ r) ts (p ++ a) r ∧ ∀ t ∈ ts, t.kind = 1
theorem znf {a:List UInt8} (h:zil a):LineN a:=fun p r=>⟨[], Sx.blanks a p r h, fun t ht=>by cases ht⟩
def NzA (st:Bool) (c:UInt8) (add:List UInt8):Prop:=if c = 32 then zil add else if st = true then LineN add else add = []
inductive Nz:Bool->List UInt8->List UInt8->Prop
 | nil {st:Bool}:Nz st [] []
 | cons {st:Bool} {c:UInt8} {s add out:List UInt8}:NzA st c add->Nz (decide (c = 10)) s out->Nz st (c :: s) (add ++ c :: out)
def jy (st:Bool):List UInt8->Bool
 | []=>st
 | c :: s=>jy (decide (c = 10)) s
theorem Nz.split:∀ {a b out:List UInt8} {st:Bool}, Nz st (a ++ b) out->∃ oa ob, out = oa ++ ob ∧ Nz st a oa ∧ Nz (jy st a) b ob
 | [], b, out, st, h=>⟨[], out, rfl, .nil, h⟩
 | c :: a, b, out, st, h=>by
  cases h with
  | cons h1 h2=>
   rename_i add out
   obtain ⟨oa, ob, e, g1, g2⟩:=Nz.split h2
   exact ⟨add ++ c :: oa, ob, by rw [e]; simp, .cons h1 g1, g2⟩
def zgi (w:List UInt8):Prop:=∀ b ∈ w, b ≠ 32 ∧ b ≠ 10
theorem Nz.word':∀ {w out:List UInt8}, zgi w->Nz false w out->out = w ∧ jy false w = false
 | [], out, _, h=>by cases h; exact ⟨rfl, rfl⟩
 | c :: w, out, hp, h=>by
  cases h with
  | cons h1 h2=>
   have hc:=hp c List.mem_cons_self
   unfold NzA at h1
   rw [if_neg hc.1, if_neg (by decide)] at h1
   rw [decide_eq_false hc.2] at h2
   obtain ⟨e1, e2⟩:=Nz.word' (fun b hb=>hp b (List.mem_cons_of_mem _ hb)) h2
   refine ⟨by rw [h1, e1]; rfl, ?_⟩
   rw [jy, decide_eq_false hc.2]; exact e2
theorem Nz.word {w out:List UInt8} (hne:w ≠ []) (hp:zgi w) (h:Nz true w out):∃ add, out = add ++ w ∧ LineN add ∧ jy true w = false:=by
 cases h with
 | nil=>exact absurd rfl hne
 | cons h1 h2=>
  rename_i c s add out
  have hc:=hp c List.mem_cons_self
  unfold NzA at h1
  rw [if_neg hc.1, if_pos rfl] at h1
  rw [decide_eq_false hc.2] at h2
  obtain ⟨e1, e2⟩:=Nz.word' (fun b hb=>hp b (List.mem_cons_of_mem _ hb)) h2
  refine ⟨add, by rw [e1], h1, ?_⟩
  rw [jy, decide_eq_false hc.2]; exact e2
theorem Nz.sp {w out:List UInt8} (hp:zgi w) (h:Nz false (32 :: w) out):∃ bl, out = bl ++ 32 :: w ∧ zil bl ∧ jy false (32 :: w) = false:=by
 cases h with
 | cons h1 h2=>
  rename_i add out
  unfold NzA at h1
  rw [if_pos rfl] at h1
  rw [decide_eq_false (by decide)] at h2
  obtain ⟨e1, e2⟩:=Nz.word' hp h2
  exact ⟨add, by rw [e1], h1, e2⟩
theorem Nz.feed {out:List UInt8} (h:Nz false [10] out):out = [10]:=by
 cases h with
 | cons h1 h2=>
  cases h2
  unfold NzA at h1
  rw [if_neg (by decide), if_neg (by decide)] at h1
  rw [h1]; rfl
theorem zan (n:Nat) (hn:n < 1000):zgi (decD n):=by
 have h:=List.all_eq_true.1 (zde n hn).2.2.1
 intro b hb
 have:=h b hb
 simp only [jo, Bool.and_eq_true, decide_eq_true_eq] at this
 refine ⟨fun e=>?_, fun e=>?_⟩ <;> (subst e; revert this; decide)
def zdp (r:List UInt8):Prop:=∀ b s, r = b :: s->jo b = false
theorem zmy {bl r:List UInt8} (h:zil bl):zdp (bl ++ 32 :: r):=by
 intro b s e
 cases bl with
 | nil=>cases e; rfl
 | cons c bl=>
  cases e
  have:=h b List.mem_cons_self
  simp only [yt, Bool.or_eq_true, decide_eq_true_eq] at this
  unfold jo
  rcases this with h | h
  ·rw [decide_eq_false (by omega)]; rfl
  ·rw [decide_eq_false (by omega)]; rfl
theorem zez (r:List UInt8):zdp (10 :: r):=by intro b s e; cases e; rfl
theorem nodig_nil:zdp []:=by intro b s e; cases e
theorem zlr {n:Nat} (hn:n < 1000) {out:List UInt8} (h:Nz false (32 :: decD n) out):(∀ r, zdp (out ++ r)) ∧ ∀ p r, zdp r->∃ t, Sx p (out ++ r) [t] (p ++ out) r ∧ t.kind = 4 ∧ t.num = (n:Int):=by
 obtain ⟨bl, rfl, hb, _⟩:=h.sp (zan n hn)
 refine ⟨fun r=>?_, fun p r hr=>?_⟩
 ·rw [List.append_assoc, List.cons_append]; exact zmy hb
 ·have h1:=Sx.blanks bl p (32 :: (decD n ++ r)) hb
  have h2:=Sx.blank (p ++ bl) (decD n ++ r) (c:=32) rfl
  have h3:=Sx.num (p ++ bl ++ [32]) n hn r hr
  refine ⟨_, by have:=(h1.trans h2).trans h3; simpa using this, rfl, rfl⟩
theorem sp_colon {out:List UInt8} (h:Nz false [32, 58] out):(∀ r, zdp (out ++ r)) ∧ ∀ p r, ∃ t, Sx p (out ++ r) [t] (p ++ out) r ∧ t.kind = 5 ∧ t.text = [58]:=by
 obtain ⟨bl, rfl, hb, _⟩:=h.sp (w:=[58]) (fun b hb=>by obtain rfl:=List.mem_singleton.1 hb; decide)
 refine ⟨fun r=>?_, fun p r=>?_⟩
 ·rw [List.append_assoc, List.cons_append]; exact zmy hb
 ·have h1:=Sx.blanks bl p (32 :: 58 :: r) hb
  have h2:=Sx.blank (p ++ bl) (58 :: r) (c:=32) rfl
  have h3:=Sx.sign (p ++ bl ++ [32]) 58 r _ rfl (by decide) (by decide)
  refine ⟨_, by have:=(h1.trans h2).trans h3; simpa using this, rfl, rfl⟩
theorem sp_nums:∀ {l:List Int} {out:List UInt8}, (∀ v ∈ l, 0≤v ∧ v < 1000)->Nz false (l.flatMap mvS) out->jy false (l.flatMap mvS) = false ∧ (∀ r, zdp r->zdp (out ++ r)) ∧ ∀ p r, zdp r->∃ ms, Sx p (out ++ r) ms (p ++ out) r ∧ (∀ t ∈ ms, t.kind = 4) ∧ ms.map Tok.num = l
 | [], out, _, h=>by
  cases h
  exact ⟨rfl, fun r hr=>hr, fun p r hr=>⟨[], by simpa using Sx.nil p r, fun t ht=>(by cases ht), rfl⟩⟩
 | v :: l, out, hl, h=>by
  rw [List.flatMap_cons] at h
  obtain ⟨oa, ob, rfl, h1, h2⟩:=h.split
  have hv:=hl v List.mem_cons_self
  obtain ⟨n, rfl⟩:=Int.eq_ofNat_of_zero_le hv.1
  have hn:n < 1000:=by omega
  have h1:Nz false (32 :: decD n) oa:=h1
  have hlast:jy false (mvS (n:Int)) = false:=(h1.sp (zan n hn)).choose_spec.2.2
  rw [hlast] at h2
  obtain ⟨k1, k2, k3⟩:=sp_nums (fun w hw=>hl w (List.mem_cons_of_mem _ hw)) h2
  obtain ⟨g1, g2⟩:=zlr hn h1
  refine ⟨?_, fun r hr=>by rw [List.append_assoc]; exact g1 _, fun p r hr=>?_⟩
  ·have happ:∀ (a b:List UInt8) (st:Bool), jy st (a ++ b) = jy (jy st a) b:=by
    intro a
    induction a with
    | nil=>intro b st; rfl
    | cons c a ih=>intro b st; exact ih b _
   rw [List.flatMap_cons, happ, hlast]; exact k1
  ·obtain ⟨t, t1, t2, t3⟩:=g2 p (ob ++ r) (k2 r hr)
   obtain ⟨ms, m1, m2, m3⟩:=k3 (p ++ oa) r hr
   refine ⟨t :: ms, by have:=t1.trans m1; simpa using this, fun u hu=>?_, by rw [List.map_cons, t3, m3]⟩
   rcases List.mem_cons.1 hu with rfl | hu
   ·exact t2
   ·exact m2 u hu
theorem zag:∀ (a b:List UInt8) (st:Bool), jy st (a ++ b) = jy (jy st a) b
 | [], _, _=>rfl
 | _ :: a, b, _=>zag a b _
end Go.Ab.S8
namespace Go.Ab.S8
theorem zga {kind:Int} {text:List UInt8} {t:Tok} {r:List Tok} (h0:kind ≠ 0) (hk:t.kind = kind) (ht:text = [] ∨ t.text = text):zx kind text ⟨t :: r, none⟩ = (t.num, ⟨r, none⟩):=by
 rw [zbu (s:=⟨t :: r, none⟩) rfl ⟨hk, ht⟩, if_neg h0]; rfl
theorem zfl {a b e:Int} {t:Tok} {r:List Tok} (hk:t.kind = 4) (ha:a≤t.num) (hb:t.num≤b):numP a b e ⟨t :: r, none⟩ = (t.num, ⟨r, none⟩):=by
 unfold numP
 rw [if_neg (fun c=>by have h2:t.num < a ∨ b < t.num:=c.2; omega)]
 exact zga (by decide) hk (.inl rfl)
theorem zep:∀ {b:List Tok} {t:Tok} {r:List Tok}, (∀ t ∈ b, t.kind = 1)->t.kind ≠ 1->zat (b ++ t :: r) = t :: r
 | [], t, r, _, ht=>by rw [List.nil_append, zat, if_neg ht]
 | u :: b, t, r, h, ht=>by rw [List.cons_append, zat, if_pos (h u List.mem_cons_self)]; exact zep (fun x hx=>h x (List.mem_cons_of_mem _ hx)) ht
theorem mvs_fwd (n:Int):∀ (ms:List Tok) (f:Nat) (acc:List Int) (last:Int) (e:Tok) (x:List Tok), (∀ t ∈ ms, t.kind = 4)->yq n last (ms.map Tok.num) = true->e.kind ≠ 4->ms.length < f ->
  mvsP n f acc last ⟨ms ++ e :: x, none⟩ = (acc ++ ms.map Tok.num, ⟨e :: x, none⟩)
 | [], f + 1, acc, last, e, x, _, _, he, _=>by
  rw [mvsP, if_neg (fun c=>he c.2)]; simp
 | t :: ms, f + 1, acc, last, e, x, hm, hb, he, hf=>by
  simp only [List.map_cons, yq, Bool.and_eq_true, decide_eq_true_eq] at hb
  have hk:=hm t List.mem_cons_self
  rw [mvsP, if_pos ⟨rfl, hk⟩, List.cons_append, zfl hk (by omega) (by omega)]
  dsimp only
  rw [mvs_fwd n ms f _ _ e x (fun u hu=>hm u (List.mem_cons_of_mem _ hu)) hb.2 he (by simpa using hf)]
  simp
theorem end_fwd {rest l':List Tok} (h:(rest = l' ∧ ∃ e x, rest = e :: x ∧ e.kind = 0) ∨ ∃ e, rest = e :: l' ∧ e.kind = 1):endP ⟨rest, none⟩ = ⟨l', none⟩:=by
 unfold endP
 rcases h with ⟨rfl, e, x, rfl, he⟩ | ⟨e, rfl, he⟩
 ·rw [if_pos (show (⟨e :: x, none⟩:St).hd.kind = 0 from he)]
 ·rw [if_neg (show ¬ (⟨e :: l', none⟩:St).hd.kind = 0 by show ¬ e.kind = 0; omega), zga (by decide) he (.inl rfl)]
theorem row_fwd {n i:Int} {l l':List Tok} {r:Rw} (h:RowL n i l l' r):rowP n i ⟨l, none⟩ = (r, ⟨l', none⟩):=by
 obtain ⟨b, ti, to', tp, tc, ms, rest, rfl, hb, ⟨i1, i2⟩, ⟨o1, o2⟩, ⟨p1, p2⟩, ⟨c1, c2⟩, m1, m2, hr⟩:=h.ex
 have ok:=h.ok
 have e1:zh ⟨b ++ (ti :: to' :: tp :: tc :: (ms ++ rest)), none⟩ = ⟨ti :: to' :: tp :: tc :: (ms ++ rest), none⟩:=by
  unfold zh
  dsimp only
  rw [zep hb (by omega)]
 have ho:=ok.o
 have hp:=ok.p
 have hre:∃ e x, rest = e :: x ∧ e.kind ≠ 4:=by
  rcases hr with ⟨_, e, x, h1, h2⟩ | ⟨e, h1, h2⟩
  ·exact ⟨e, x, h1, by omega⟩
  ·exact ⟨e, _, h1, by omega⟩
 obtain ⟨e, x, rfl, he⟩:=hre
 have e2:zah n ⟨ms ++ e :: x, none⟩ = (r.m, ⟨e :: x, none⟩):=by
  unfold zah
  rw [mvs_fwd n ms _ [] (-1) e x m1 (by rw [m2]; exact ok.m) he (by simp; omega), List.nil_append, m2]
  unfold zdt
  rw [if_neg (fun c=>ok.ne c.1)]
 unfold rowP
 dsimp only
 rw [e1, zfl i1 (by omega) (by omega)]
 dsimp only
 rw [zfl o1 (by omega) (by omega)]
 dsimp only
 rw [zfl p1 (by omega) (by omega)]
 dsimp only
 rw [zga (by decide) c1 (.inr c2)]
 dsimp only
 rw [e2]
 dsimp only
 rw [end_fwd hr, o2, p2]
theorem rows_fwd {n:Int}:∀ {i:Int} {l l':List Tok} {rs:List Rw}, RowsL n i l rs l'->∀ g, yr n rs.length i g ⟨l, none⟩ = (rs.foldl Gm.add g, ⟨l', none⟩):=by
 intro i l l' rs h
 induction h with
 | nil=>intro g; rfl
 | cons R _ ih=>
  intro g
  rw [List.length_cons, yr, if_pos (show (none:Option (Int × Int)).isNone = true from rfl), row_fwd R]
  dsimp only
  rw [ih]
  rfl
theorem head_fwd {ts b rest l1:List Tok} {tg tn:Tok} (hts:ts = b ++ (tg :: tn :: rest)) (hb:∀ t ∈ b, t.kind = 1) (hg:tg.kind = 2 ∧ tg.text = [103, 97, 109, 101]) (hn:tn.kind = 4) (h1:1≤tn.num) (h2:tn.num≤200)
  (hr:(rest = l1 ∧ ∃ e x, rest = e :: x ∧ e.kind = 0) ∨ ∃ e, rest = e :: l1 ∧ e.kind = 1):jf ⟨ts, none⟩ = (tn.num, ⟨l1, none⟩):=by
 have e1:zh ⟨ts, none⟩ = ⟨tg :: tn :: rest, none⟩:=by
  unfold zh
  dsimp only
  rw [hts, zep hb (by omega)]
 unfold jf
 dsimp only
 rw [e1, zga (by decide) hg.1 (.inr hg.2)]
 dsimp only
 rw [zfl hn h1 h2]
 dsimp only
 rw [end_fwd hr]
theorem page_fwd {ts:List Tok} {g:Gm} (h:PageL ts g):pageP ts = .ok g:=by
 obtain ⟨b, tg, tn, rest, l1, rs, l2, e, hts, hb, hg, ⟨n1, n2⟩, hn, hr, R, rfl, ⟨b', hl2, hb'⟩, he⟩:=h.ex
 unfold pageP
 rw [head_fwd hts hb hg n1 (by omega) (by omega) hr]
 dsimp only
 rw [n2, show ((rs.length:Int)).toNat = rs.length from Int.toNat_natCast _, rows_fwd R]
 unfold zfg
 dsimp only
 have e2:zh ⟨l2, none⟩ = ⟨[e], none⟩:=by
  unfold zh
  dsimp only
  rw [hl2, zep hb' (by omega)]
 rw [e2, zbu (s:=⟨[e], none⟩) rfl ⟨he, .inl rfl⟩, if_pos rfl]
 dsimp only
 rw [ziv]
 rfl
structure RowT (i:Int) (ts:List Tok) (r:Rw):Prop where
 ex:∃ b ti to' tp tc ms, ts = b ++ (ti :: to' :: tp :: tc :: ms) ∧ (∀ t ∈ b, t.kind = 1) ∧ (ti.kind = 4 ∧ ti.num = i) ∧ (to'.kind = 4 ∧ to'.num = r.o) ∧ (tp.kind = 4 ∧ tp.num = r.p) ∧ (tc.kind = 5 ∧ tc.text = [58]) ∧ (∀ t ∈ ms, t.kind = 4) ∧ ms.map Tok.num = r.m
theorem RowT.rowL {n i:Int} {ts rest:List Tok} {r:Rw} (h:RowT i ts r) (ok:RowOk n r.o r.p r.m) {f:Tok} (hf:f.kind = 1):RowL n i (ts ++ f :: rest) rest r:=by
 obtain ⟨b, ti, to', tp, tc, ms, rfl, h1, h2, h3, h4, h5, h6, h7⟩:=h.ex
 exact ⟨⟨b, ti, to', tp, tc, ms, f :: rest, by simp, h1, h2, h3, h4, h5, h6, h7, .inr ⟨f, rfl, hf⟩⟩, ok⟩
theorem RowT.rowE {n i:Int} {ts rest:List Tok} {r:Rw} (h:RowT i ts r) (ok:RowOk n r.o r.p r.m) {f:Tok} (hf:f.kind = 0):RowL n i (ts ++ f :: rest) (f :: rest) r:=by
 obtain ⟨b, ti, to', tp, tc, ms, rfl, h1, h2, h3, h4, h5, h6, h7⟩:=h.ex
 exact ⟨⟨b, ti, to', tp, tc, ms, f :: rest, by simp, h1, h2, h3, h4, h5, h6, h7, .inl ⟨rfl, f, rest, rfl, hf⟩⟩, ok⟩
theorem zal {w:List UInt8} (hne:w ≠ []) (hp:zgi w):∀ st, jy st w = false:=by
 induction w with
 | nil=>exact absurd rfl hne
 | cons c w ih=>
  intro st
  rw [jy, decide_eq_false (hp c List.mem_cons_self).2]
  cases w with
  | nil=>rfl
  | cons d w=>exact ih (by simp) (fun b hb=>hp b (List.mem_cons_of_mem _ hb)) _
theorem zmu {n i:Nat} {o p:Int} {l:List Int} (hi:i < 1000) (hn:n≤200) (ok:RowOk n o p l) {out:List UInt8} (h:Nz true (zbw i o p ++ l.flatMap mvS) out) :
  jy true (zbw i o p ++ l.flatMap mvS) = false ∧ ∀ P R, zdp R->∃ ts, Sx P (out ++ R) ts (P ++ out) R ∧ RowT i ts ⟨o, p, l⟩:=by
 have ho:=ok.o
 have hp:=ok.p
 obtain ⟨on, rfl⟩:=Int.eq_ofNat_of_zero_le ho.1
 obtain ⟨pn, rfl⟩:=Int.eq_ofNat_of_zero_le hp.1
 have hl:∀ v ∈ l, 0≤v ∧ v < 1000:=fun v hv=>by have:=zca ok.m v hv; omega
 rw [show zbw i (on:Int) (pn:Int) ++ l.flatMap mvS = decD i ++ ((32 :: decD on) ++ ((32 :: decD pn) ++ ([32, 58] ++ l.flatMap mvS))) by
  unfold zbw; simp [Int.toNat_natCast]] at h ⊢
 obtain ⟨o1, x1, rfl, h1, h⟩:=h.split
 rw [zal (zde i hi).2.2.2 (zan i hi)] at h
 obtain ⟨o2, x2, rfl, h2, h⟩:=h.split
 have q2:jy false (32 :: decD on) = false:=by rw [jy]; exact zal (zde on (by omega)).2.2.2 (zan on (by omega)) _
 rw [q2] at h
 obtain ⟨o3, x3, rfl, h3, h⟩:=h.split
 have q3:jy false (32 :: decD pn) = false:=by rw [jy]; exact zal (zde pn (by omega)).2.2.2 (zan pn (by omega)) _
 rw [q3] at h
 obtain ⟨o4, o5, rfl, h4, h5⟩:=h.split
 rw [show jy false [32, 58] = false from rfl] at h5
 obtain ⟨add, rfl, ha, _⟩:=h1.word (zde i hi).2.2.2 (zan i hi)
 obtain ⟨s2a, s2⟩:=zlr (by omega) h2
 obtain ⟨s3a, s3⟩:=zlr (by omega) h3
 obtain ⟨s4a, s4⟩:=sp_colon h4
 obtain ⟨s5z, s5a, s5⟩:=sp_nums hl h5
 refine ⟨?_, fun P R hR=>?_⟩
 ·rw [zag, zag, zag, zag, zal (zde i hi).2.2.2 (zan i hi), q2, q3]
  exact s5z
 ·obtain ⟨b, b1, b2⟩:=ha P (decD i ++ (o2 ++ (o3 ++ (o4 ++ (o5 ++ R)))))
  have t1:=Sx.num (P ++ add) i hi (o2 ++ (o3 ++ (o4 ++ (o5 ++ R)))) (s2a _)
  obtain ⟨t2, u2, k2, v2⟩:=s2 (P ++ add ++ decD i) (o3 ++ (o4 ++ (o5 ++ R))) (s3a _)
  obtain ⟨t3, u3, k3, v3⟩:=s3 (P ++ add ++ decD i ++ o2) (o4 ++ (o5 ++ R)) (s4a _)
  obtain ⟨t4, u4, k4, v4⟩:=s4 (P ++ add ++ decD i ++ o2 ++ o3) (o5 ++ R)
  obtain ⟨ms, u5, k5, v5⟩:=s5 (P ++ add ++ decD i ++ o2 ++ o3 ++ o4) R hR
  refine ⟨_, by have:=((((b1.trans t1).trans u2).trans u3).trans u4).trans u5; simpa [List.append_assoc] using this, ⟨b, _, t2, t3, t4, ms, rfl, b2, ⟨rfl, rfl⟩, ⟨k2, v2⟩, ⟨k3, v3⟩, ⟨k4, v4⟩, k5, v5⟩⟩
theorem zkn {n:Nat} (hn:n < 1000) {out:List UInt8} (h:Nz true ([103, 97, 109, 101] ++ (32 :: decD n)) out) :
  jy true ([103, 97, 109, 101] ++ (32 :: decD n)) = false ∧ ∀ P R, zdp R->∃ b tg tn, Sx P (out ++ R) (b ++ [tg, tn]) (P ++ out) R ∧ (∀ t ∈ b, t.kind = 1) ∧ (tg.kind = 2 ∧ tg.text = [103, 97, 109, 101]) ∧ tn.kind = 4 ∧ tn.num = (n:Int):=by
 have hp:zgi [103, 97, 109, 101]:=by intro b hb; simp at hb; rcases hb with rfl | rfl | rfl | rfl <;> decide
 obtain ⟨o1, o2, rfl, h1, h2⟩:=h.split
 rw [zal (by simp) hp] at h2
 have q2:jy false (32 :: decD n) = false:=by rw [jy]; exact zal (zde n hn).2.2.2 (zan n hn) _
 obtain ⟨add, rfl, ha, _⟩:=h1.word (by simp) hp
 obtain ⟨bl, rfl, hb, _⟩:=h2.sp (zan n hn)
 obtain ⟨s2a, s2⟩:=zlr hn h2
 refine ⟨by rw [zag, zal (by simp) hp]; exact q2, fun P R hR=>?_⟩
 obtain ⟨b, b1, b2⟩:=ha P ([103, 97, 109, 101] ++ (bl ++ 32 :: decD n ++ R))
 have t1:=Sx.name (P ++ add) 103 [97, 109, 101] (bl ++ 32 :: decD n ++ R) _ rfl (kd:=2) (by decide) (.inl rfl) (by decide) (by decide) (fun c s e=>by
  rw [List.append_assoc] at e
  cases bl with
  | nil=>cases e; rfl
  | cons d bl=>
   cases e
   have:=hb c List.mem_cons_self
   simp only [yt, Bool.or_eq_true, decide_eq_true_eq] at this
   have e1:c = 32 ∨ c = 9:=by
    rcases this with h | h
    ·exact .inl (UInt8.toNat_inj.1 (show c.toNat = 32 by omega))
    ·exact .inr (UInt8.toNat_inj.1 (show c.toNat = 9 by omega))
   rcases e1 with rfl | rfl <;> rfl)
 obtain ⟨t2, u2, k2, v2⟩:=s2 (P ++ add ++ [103, 97, 109, 101]) R hR
 refine ⟨b, _, t2, by have:=(b1.trans t1).trans u2; simpa [List.append_assoc] using this, b2, ⟨rfl, rfl⟩, k2, v2⟩
def lsS (i:Nat) (rs:List Rw):List UInt8:=zcd i (rs.map Rw.o) (rs.map Rw.p) (rs.map Rw.m)
theorem zea (i:Nat) (r:Rw) (rs:List Rw):lsS i (r :: rs) = (zbw i r.o r.p ++ r.m.flatMap mvS) ++ ([10] ++ lsS (i + 1) rs):=by
 show zjm i r.o r.p r.m ++ lsS (i + 1) rs = _
 unfold zjm
 simp
theorem RowsL.app {n:Int} {i:Int} {l l' l'':List Tok} {rs rs':List Rw} (h:RowsL n i l rs l'):RowsL n (i + rs.length) l' rs' l''->RowsL n i l (rs ++ rs') l'':=by
 induction h with
 | nil=>intro g; simpa using g
 | cons R _ ih=>
  intro g
  refine .cons R (ih ?_)
  simp only [List.length_cons] at g
  rw [show ∀ (i:Int) (k:Nat), i + 1 + (k:Int) = i + ((k + 1:Nat):Int) by intro i k; omega]
  exact g
theorem zij {n:Nat} (hn:n≤200):∀ (rs:List Rw) (i:Nat) {out:List UInt8}, (∀ r ∈ rs, RowOk n r.o r.p r.m)->i + rs.length≤1000->Nz true (lsS i rs) out ->
  jy true (lsS i rs) = true ∧ ∀ P R, ∃ ts, Sx P (out ++ R) ts (P ++ out) R ∧ ∀ rest, RowsL n i (ts ++ rest) rs rest
 | [], i, out, _, _, h=>by
  cases h
  exact ⟨rfl, fun P R=>⟨[], by simpa using Sx.nil P R, fun rest=>.nil⟩⟩
 | r :: rs, i, out, hr, hi, h=>by
  rw [zea] at h ⊢
  simp only [List.length_cons] at hi
  obtain ⟨o1, x1, rfl, h1, h⟩:=h.split
  obtain ⟨k1, k2⟩:=zmu (by omega) hn (hr r List.mem_cons_self) h1
  rw [k1] at h
  obtain ⟨o2, o3, rfl, h2, h3⟩:=h.split
  obtain rfl:=h2.feed
  rw [show jy false [10] = true from rfl] at h3
  obtain ⟨g1, g2⟩:=zij hn rs (i + 1) (fun r hr'=>hr r (List.mem_cons_of_mem _ hr')) (by omega) h3
  refine ⟨by rw [zag, zag, k1]; exact g1, fun P R=>?_⟩
  obtain ⟨t1, s1, R1⟩:=k2 P ([10] ++ o3 ++ R) (by
   rw [List.append_assoc]; exact zez _)
  have s2:=Sx.line (P ++ o1) (o3 ++ R)
  obtain ⟨t3, s3, R3⟩:=g2 (P ++ o1 ++ [10]) R
  refine ⟨_, by
   have:=(s1.trans (q:=P ++ o1) (us:=_) (v:=_) (by simpa using s2)).trans s3
   simpa [List.append_assoc] using this, fun rest=>?_⟩
  have:=R1.rowL (n:=n) (rest:=t3 ++ rest) (hr r List.mem_cons_self) (f:=⟨1, ((P ++ o1).length:Nat), [10], 0⟩) rfl
  have e:((i:Nat):Int) + 1 = ((i + 1:Nat):Int):=by omega
  have hc:RowsL n i (t1 ++ ⟨1, ((P ++ o1).length:Nat), [10], 0⟩ :: (t3 ++ rest)) (r :: rs) rest:=.cons this (by rw [e]; exact R3 rest)
  simpa [List.append_assoc] using hc
theorem zlc {g:Gm} (h:Ok g):∃ rs, g = zbe rs ∧ rs.length = g.mv.length ∧ ∀ r ∈ rs, RowOk g.mv.length r.o r.p r.m:=by
 have key:∀ (os ps:List Int) (ls:List (List Int)), os.length = ls.length->ps.length = ls.length->∃ rs:List Rw, rs.map Rw.o = os ∧ rs.map Rw.p = ps ∧ rs.map Rw.m = ls:=by
  intro os
  induction os with
  | nil=>intro ps ls h1 h2; exact ⟨[], rfl, by cases ls <;> simp_all, by cases ls <;> simp_all⟩
  | cons o os ih=>
   intro ps ls h1 h2
   cases ls with
   | nil=>simp at h1
   | cons l ls=>
    cases ps with
    | nil=>simp at h2
    | cons p ps=>
     obtain ⟨rs, e1, e2, e3⟩:=ih ps ls (by simpa using h1) (by simpa using h2)
     exact ⟨⟨o, p, l⟩ :: rs, by simp [e1], by simp [e2], by simp [e3]⟩
 obtain ⟨rs, e1, e2, e3⟩:=key g.ow g.pr g.mv h.l1 h.l2
 refine ⟨rs, by unfold zbe; rw [e1, e2, e3], by rw [← e3]; simp, fun r hr=>?_⟩
 obtain ⟨i, hi⟩:=List.getElem?_of_mem hr
 exact h.row i _ _ _ (by rw [← e1, List.getElem?_map, hi]; rfl) (by rw [← e2, List.getElem?_map, hi]; rfl) (by rw [← e3, List.getElem?_map, hi]; rfl)
theorem zdq (rs:List Rw):zn (zbe rs) = ([103, 97, 109, 101] ++ (32 :: decD rs.length)) ++ ([10] ++ lsS 0 rs):=by
 unfold zn topS zbe lsS
 simp
theorem scan_all {s:List UInt8} {ts:List Tok} (h:Sx [] s ts s []) (hl:s.length≤262144):zbd s = .ok (ts ++ [⟨0, (s.length:Nat), [], 0⟩]):=by
 have:=h.2
 rw [List.nil_append] at this
 exact this.okF hl
theorem zfm:∀ (s:List UInt8) (st:Bool), Nz st s s
 | [], st=>.nil
 | c :: s, st=>by
  have:=Nz.cons (st:=st) (c:=c) (add:=[]) (by
   unfold NzA
   split
   ·intro b hb; cases hb
   ·split
    ·exact znf fun b hb=>by cases hb
    ·rfl) (zfm s (decide (c = 10)))
  simpa using this
end Go.Ab.S8
namespace Go.Ab.S8
variable {α:Type} {h:H}
theorem GmO.gm {h:H} {n:Nat} {o p m:Sl} {g:Gm} (G:GmO h n o p m g):GmR h o p m g:=by
 obtain ⟨q3, b, rows, _, B⟩:=G
 exact B.gm
end Go.Ab.S8
namespace Go.Ab.S8
theorem Sc.split {text:List UInt8} {n m:Nat} {ts:List Tok} (s:Sc text n ts m):∀ {A B:List Tok}, ts = A ++ B->∃ q, Sc text n A q ∧ Sc text q B m:=by
 induction s with
 | nil h=>
  intro A B e
  have:=List.append_eq_nil_iff.1 e.symm
  rw [this.1, this.2]
  exact ⟨_, .nil h, .nil h⟩
 | blank hc hb _ ih=>
  intro A B e
  obtain ⟨q, h1, h2⟩:=ih e
  exact ⟨q, .blank hc hb h1, h2⟩
 | rem hc hb hr _ ih=>
  intro A B e
  obtain ⟨q, h1, h2⟩:=ih e
  exact ⟨q, .rem hc hb hr h1, h2⟩
 | tok hc hb hr he s ih=>
  intro A B e
  cases A with
  | nil=>rw [List.nil_append] at e; subst e; exact ⟨_, .nil (Nat.le_of_lt (zar hc)), .tok hc hb hr he s⟩
  | cons t A=>
   simp only [List.cons_append, List.cons.injEq] at e
   obtain ⟨rfl, e⟩:=e
   obtain ⟨q, h1, h2⟩:=ih e
   exact ⟨q, .tok hc hb hr he h1, h2⟩
theorem Sc.lt {text:List UInt8} {n m:Nat} {ts:List Tok} (s:Sc text n ts m):n≤m ∧ (ts ≠ []->n < m):=by
 induction s with
 | nil _=>exact ⟨Nat.le_refl _, fun h=>absurd rfl h⟩
 | blank _ _ _ ih=>exact ⟨by omega, fun h=>by have:=ih.2 h; omega⟩
 | rem _ _ _ _ ih=>exact ⟨by omega, fun h=>by have:=ih.2 h; omega⟩
 | tok hc _ _ _ _ ih=>
  rename_i n m ts c _ _ _ _
  have:=(zbg (c:=c) (zar hc)).1
  exact ⟨by have:=ih.1; omega, fun _=>by have:=ih.1; omega⟩
theorem Sc.det {text:List UInt8} {n m:Nat} {A:List Tok} (s:Sc text n A m):∀ {us:List Tok}, Sc text n us text.length->∃ C, us = A ++ C:=by
 induction s with
 | nil h=>intro us _; exact ⟨us, rfl⟩
 | blank hc hb _ ih=>
  intro us g
  cases g with
  | nil h=>have:=zar hc; omega
  | blank _ _ g=>exact ih g
  | rem hc' hb' _ _=>rw [hc] at hc'; cases hc'; rw [hb] at hb'; cases hb'
  | tok hc' hb' _ _ _=>rw [hc] at hc'; cases hc'; rw [hb] at hb'; cases hb'
 | rem hc hb hr _ ih=>
  intro us g
  cases g with
  | nil h=>have:=zar hc; omega
  | blank hc' hb' g=>rw [hc] at hc'; cases hc'; rw [hb] at hb'; cases hb'
  | rem _ _ _ g=>exact ih g
  | tok hc' _ hr' _ _=>rw [hc] at hc'; cases hc'; rw [hr] at hr'; cases hr'
 | tok hc hb hr he _ ih=>
  intro us g
  cases g with
  | nil h=>have:=zar hc; omega
  | blank hc' hb' g=>rw [hc] at hc'; cases hc'; rw [hb] at hb'; cases hb'
  | rem hc' _ hr' _=>rw [hc] at hc'; cases hc'; rw [hr] at hr'; cases hr'
  | tok hc' _ _ _ g=>
   rw [hc] at hc'; cases hc'
   obtain ⟨C, rfl⟩:=ih g
   exact ⟨C, rfl⟩
def cnt (text:List UInt8) (n:Nat):Nat:=(text.take n).count 58
theorem zmx {text:List UInt8} {n:Nat} {c:UInt8} (hc:text[n]? = some c):cnt text (n + 1) = cnt text n + if c = 58 then 1 else 0:=by
 unfold cnt
 rw [List.take_add_one, hc, List.count_append]
 by_cases h:c = 58
 ·subst h; simp
 ·rw [if_neg h]; simp [h]
theorem zdr (text:List UInt8) {n m:Nat} (h:n≤m):cnt text n≤cnt text m:=by
 unfold cnt
 have:text.take n = (text.take m).take n:=by rw [List.take_take, Nat.min_eq_left h]
 rw [this]
 exact (List.take_sublist n _).count_le 58
def colB (t:Tok):Bool:=decide (t.text = [58])
theorem Sc.count {text:List UInt8} {n m:Nat} {ts:List Tok} (s:Sc text n ts m):cnt text n + (ts.filter colB).length≤cnt text m:=by
 induction s with
 | nil _=>simp
 | blank _ _ _ ih=>exact Nat.le_trans (Nat.add_le_add_right (zdr text (Nat.le_succ _)) _) ih
 | rem _ _ _ _ ih=>exact Nat.le_trans (Nat.add_le_add_right (zdr text (Nat.le_add_right _ _)) _) ih
 | tok hc _ _ _ s ih=>
  rename_i n m ts c _ _ _
  have hp:=(zbg (c:=c) (zar hc)).1
  have h1:=zmx hc
  have h2:=zdr text (show n + 1≤n + (zy text n c).length by omega)
  rw [List.filter_cons]
  by_cases hb:colB (tokF text n c).1 = true
  ·rw [if_pos hb, List.length_cons]
   unfold colB at hb
   have hb:=of_decide_eq_true hb
   rw [zel] at hb
   have h58:c = 58:=by
    have hd:text.drop n = c :: text.drop (n + 1):=by
     have hl:=zar hc
     rw [List.drop_eq_getElem_cons hl]
     rw [List.getElem?_eq_getElem hl] at hc
     cases hc; rfl
    unfold zy at hb
    rw [hd] at hb
    generalize zas (jb c.toNat) (c :: text.drop (n + 1)) = q at hb
    cases q with
    | zero=>cases hb
    | succ q=>rw [List.take_succ_cons] at hb; exact (List.cons.inj hb).1
   rw [if_pos h58] at h1
   omega
  ·rw [if_neg hb]
   split at h1 <;> omega
theorem RowL.shape {n i:Int} {l l':List Tok} {r:Rw} (R:RowL n i l l' r):(∃ A t B, l = A ++ t :: B ∧ 1≤(A.filter colB).length ∧ t.kind = 4) ∧ ∃ X, l = X ++ l' ∧ 1≤(X.filter colB).length:=by
 obtain ⟨b, ti, to', tp, tc, ms, rest, rfl, hb, _, _, _, ⟨c1, c2⟩, m1, m2, hr⟩:=R.ex
 have hne:ms ≠ []:=by intro e; rw [e] at m2; exact R.ok.ne m2.symm
 have hc:1≤((b ++ [ti, to', tp, tc]).filter colB).length:=by
  have:tc ∈ (b ++ [ti, to', tp, tc]).filter colB:=List.mem_filter.2 ⟨by simp, by simp [colB, c2]⟩
  exact List.length_pos_of_mem this
 constructor
 ·cases ms with
  | nil=>exact absurd rfl hne
  | cons t ms=>exact ⟨b ++ [ti, to', tp, tc], t, ms ++ rest, by simp, hc, m1 t List.mem_cons_self⟩
 ·have more:∀ Y:List Tok, 1≤((b ++ [ti, to', tp, tc] ++ Y).filter colB).length:=fun Y=>by
   rw [List.filter_append, List.length_append]; omega
  rcases hr with ⟨h, _⟩ | ⟨e, h, _⟩
  ·exact ⟨b ++ [ti, to', tp, tc] ++ ms, by rw [h]; simp, more _⟩
  ·exact ⟨b ++ [ti, to', tp, tc] ++ (ms ++ [e]), by rw [h]; simp, more _⟩
theorem RowsL.shape {n i:Int} {l l':List Tok} {rs:List Rw} (R:RowsL n i l rs l'):rs ≠ []->∃ A t B, l = A ++ t :: B ∧ rs.length≤(A.filter colB).length ∧ t.kind = 4:=by
 induction R with
 | nil=>intro h; exact absurd rfl h
 | cons R R' ih=>
  intro _
  rename_i rs _
  cases rs with
  | nil=>
   obtain ⟨⟨A, t, B, h1, h2, h3⟩, _⟩:=R.shape
   exact ⟨A, t, B, h1, h2, h3⟩
  | cons r rs=>
   obtain ⟨_, X, h1, h2⟩:=R.shape
   obtain ⟨A, t, B, g1, g2, g3⟩:=ih (by simp)
   refine ⟨X ++ A, t, B, by rw [h1, g1]; simp, ?_, g3⟩
   rw [List.filter_append, List.length_append, List.length_cons]
   omega
theorem app_last {A B us:List Tok} {t e:Tok} (h:A ++ t :: B = us ++ [e]) (hk:t.kind = 4) (he:e.kind = 0):∃ B', us = A ++ t :: B':=by
 rcases List.eq_nil_or_concat B with rfl | ⟨B', x, rfl⟩
 ·exfalso
  have:=List.append_inj' h rfl
  simp only [List.cons.injEq, and_true] at this
  rw [this.2] at hk; omega
 ·refine ⟨B', ?_⟩
  have:(A ++ t :: B') ++ [x] = us ++ [e]:=by rw [← h]; simp
  exact ((List.append_inj' this rfl).1).symm
theorem zmt {text:List UInt8} {g:Gm} (h:zbk text = .ok g):∃ q, q < text.length ∧ g.mv.length≤cnt text q ∧ 1≤g.mv.length ∧ ∃ us b tg tn rest, Sc text 0 us text.length ∧ us ++ [⟨0, (text.length:Nat), [], 0⟩] = b ++ tg :: tn :: rest ∧ (∀ t ∈ b, t.kind = 1) ∧ tg.kind = 2 ∧ tn.num = (g.mv.length:Int):=by
 obtain ⟨ts, hs, P⟩:=zok h
 obtain ⟨b, tg, tn, rest, l1, rs, l2, e, hts, hb, hg, ⟨n1, n2⟩, hn, hr, R, rfl, _, _⟩:=P.ex
 have hlen:(zbe rs).mv.length = rs.length:=by simp [zbe]
 rw [hlen]
 rcases zcf text with ⟨_, hq⟩ | ⟨hl, us, sc, hq⟩ | ⟨_, _, _, _, _, _, hq⟩
 ·rw [hs] at hq; cases hq
 ·rw [hs] at hq
  cases hq
  obtain ⟨A, t, B, g1, g2, g3⟩:=R.shape (by intro e; rw [e] at hn; simp at hn)
  obtain ⟨X, hX⟩:∃ X, us ++ [⟨0, (text.length:Nat), [], 0⟩] = X ++ l1:=by
   rcases hr with ⟨h, _⟩ | ⟨e, h, _⟩
   ·exact ⟨b ++ [tg, tn], by rw [hts, h]; simp⟩
   ·exact ⟨b ++ [tg, tn, e], by rw [hts, h]; simp⟩
  obtain ⟨B', hB⟩:=app_last (A:=X ++ A) (t:=t) (B:=B) (us:=us) (e:=⟨0, (text.length:Nat), [], 0⟩) (by rw [hX, g1]; simp) g3 rfl
  obtain ⟨q, s1, s2⟩:=sc.split hB
  have c1:=s1.count
  rw [List.filter_append, List.length_append] at c1
  exact ⟨q, s2.lt.2 (by simp), by omega, hn.1, us, b, tg, tn, rest, sc, hts, hb, hg.1, n2⟩
 ·rw [hs] at hq; cases hq
theorem zkg:∀ {b b':List Tok} {t t':Tok} {r r':List Tok}, (∀ t ∈ b, t.kind = 1)->(∀ t ∈ b', t.kind = 1)->t.kind = 2->t'.kind = 2->b ++ t :: r = b' ++ t' :: r'->r = r'
 | [], [], t, t', r, r', _, _, _, _, e=>(List.cons.inj e).2
 | [], u :: b', t, t', r, r', _, h, h2, _, e=>by
  have e1:t = u:=(List.cons.inj e).1
  have:=h u List.mem_cons_self
  rw [← e1] at this
  omega
 | u :: b, [], t, t', r, r', h, _, _, h2, e=>by
  have e1:u = t':=(List.cons.inj e).1
  have:=h u List.mem_cons_self
  rw [e1] at this
  omega
 | u :: b, u' :: b', t, t', r, r', h, h', h2, h2', e=>by
  have e:b ++ t :: r = b' ++ t' :: r':=(List.cons.inj e).2
  exact zkg (fun x hx=>h x (List.mem_cons_of_mem _ hx)) (fun x hx=>h' x (List.mem_cons_of_mem _ hx)) h2 h2' e
theorem zfz (n:Nat) (hn:n < 1000):(decD n).count 58 = 0:=by
 rw [List.count_eq_zero]
 intro h
 have:=List.all_eq_true.1 (zde n hn).2.2.1 _ h
 revert this; decide
theorem mvs_cnt:∀ {l:List Int}, (∀ v ∈ l, 0≤v ∧ v < 1000)->(l.flatMap mvS).count 58 = 0
 | [], _=>rfl
 | v :: l, h=>by
  rw [List.flatMap_cons, List.count_append, mvs_cnt (fun w hw=>h w (List.mem_cons_of_mem _ hw))]
  unfold mvS
  have:=h v List.mem_cons_self
  rw [List.count_cons, zfz _ (by omega)]; rfl
theorem row_cnt {n i:Nat} {r:Rw} (hi:i < 1000) (hn:n≤200) (ok:RowOk n r.o r.p r.m):(zbw i r.o r.p ++ r.m.flatMap mvS).count 58 = 1:=by
 have ho:=ok.o
 have hp:=ok.p
 rw [List.count_append, mvs_cnt fun v hv=>by have:=zca ok.m v hv; omega]
 unfold zbw
 simp only [List.count_append, zfz i hi, zfz r.o.toNat (by omega), zfz r.p.toNat (by omega)]
 rfl
theorem lsS_cnt {n:Nat} (hn:n≤200):∀ (rs:List Rw) (i:Nat), (∀ r ∈ rs, RowOk n r.o r.p r.m)->i + rs.length≤1000->(lsS i rs).count 58 = rs.length
 | [], i, _, _=>rfl
 | r :: rs, i, h, hi=>by
  simp only [List.length_cons] at hi
  rw [zea, List.count_append (l₁:=zbw i r.o r.p ++ r.m.flatMap mvS), List.count_append (l₁:=[10]), row_cnt (by omega) hn (h r List.mem_cons_self), lsS_cnt hn rs (i + 1) (fun r hr=>h r (List.mem_cons_of_mem _ hr)) (by omega), List.length_cons]
  show 1 + (0 + rs.length) = _
  omega
theorem zms {n:Nat} (hn:n < 1000):([103, 97, 109, 101] ++ (32 :: decD n)).count 58 = 0:=by
 rw [List.count_append, List.count_cons (l:=decD n), zfz n hn]; rfl
theorem zki {g:Gm} (ok:Ok g):(zn g).count 58 = g.mv.length:=by
 obtain ⟨rs, e, hlen, hr⟩:=zlc ok
 have n2:=ok.n2
 rw [← hlen] at hr
 rw [← hlen, e, zdq, List.count_append, zms (by omega), List.count_append, lsS_cnt (by omega:rs.length≤200) rs 0 hr (by omega)]
 show 0 + (0 + rs.length) = _
 omega
theorem cut_err {g g':Gm} (ok:Ok g) {k n:Nat} (hk:(zn g)[k]? = some 58) (hlast:∀ j, k < j->(zn g)[j]? ≠ some 58) (hn:n≤k + 1) (h:zbk ((zn g).take n) = .ok g'):False:=by
 obtain ⟨q, hq, h1, h2, us, b, tg, tn, rest, sc, hts, hb, hg, hnum⟩:=zmt h
 have hlt:=zar hk
 have n2:=ok.n2
 have hnl:((zn g).take n).length = n:=by rw [List.length_take]; omega
 rw [hnl] at hq
 have e1:cnt ((zn g).take n) q = cnt (zn g) q:=by unfold cnt; rw [List.take_take, Nat.min_eq_left (by omega)]
 rw [e1] at h1
 have h3:cnt (zn g) q≤cnt (zn g) k:=zdr _ (by omega)
 have h4:cnt (zn g) (k + 1) = cnt (zn g) k + 1:=by rw [zmx hk]; rfl
 have h5:cnt (zn g) (k + 1)≤cnt (zn g) (zn g).length:=zdr _ (by omega)
 have h6:cnt (zn g) (zn g).length = g.mv.length:=by unfold cnt; rw [List.take_length]; exact zki ok
 obtain ⟨rs, e, hlen, hr⟩:=zlc ok
 have hP:zn g = ([103, 97, 109, 101] ++ (32 :: decD g.mv.length)) ++ ([10] ++ lsS 0 rs):=by rw [← hlen, ← zdq, ← e]
 generalize hH:([103, 97, 109, 101] ++ (32 :: decD g.mv.length)) = H at hP
 have hc0:H.count 58 = 0:=by rw [← hH]; exact zms (by omega)
 by_cases c:n≤H.length
 ·have:cnt (zn g) q = 0:=by
   unfold cnt
   rw [hP, List.take_append_of_le_length (by omega)]
   have:=(List.take_sublist q H).count_le 58
   omega
  omega
 ·have hcut:(zn g).take n = H ++ (10 :: (lsS 0 rs).take (n - H.length - 1)):=by
   rw [hP, List.take_append, List.take_of_length_le (by omega:H.length≤n)]
   congr 1
   rw [show n - H.length = (n - H.length - 1) + 1 by omega]
   rfl
  have hs:=(zkn (n:=g.mv.length) (by omega) (zfm _ true)).2 [] (10 :: (lsS 0 rs).take (n - H.length - 1)) (zez _)
  rw [hH] at hs
  obtain ⟨b2, tg2, tn2, s2, hb2, hg2, _, hnum2⟩:=hs
  have s3:=s2.2
  rw [List.nil_append, ← hcut] at s3
  obtain ⟨C, hC⟩:=s3.det sc
  rw [hC] at hts
  have:=zkg (b:=b2) (b':=b) (t:=tg2) (t':=tg) (r:=tn2 :: (C ++ [⟨0, (((zn g).take n).length:Nat), [], 0⟩])) (r':=tn :: rest) hb2 hb hg2.1 hg (by rw [← hts]; simp)
  cases this
  rw [hnum] at hnum2
  omega
theorem lsS_app:∀ (a b:List Rw) (i:Nat), lsS i (a ++ b) = lsS i a ++ lsS (i + a.length) b
 | [], b, i=>rfl
 | r :: a, b, i=>by
  rw [List.cons_append, zea, zea, lsS_app a b (i + 1), List.length_cons, show i + 1 + a.length = i + (a.length + 1) by omega]
  simp
theorem take_less (X:List UInt8):(X ++ [10]).take ((X ++ [10]).length - 1) = X:=by
 have e:(X ++ [(10:UInt8)]).length - 1 = X.length:=by simp
 rw [e]
 exact List.take_left
theorem zny {g:Gm} (ok:Ok g):zbk ((zn g).take ((zn g).length - 1)) = .ok g:=by
 obtain ⟨rs, e, hlen, hr⟩:=zlc ok
 rw [← hlen] at hr
 have n1:=ok.n1
 have n2:=ok.n2
 have hL:=(zfe ok).1
 rcases List.eq_nil_or_concat rs with rfl | ⟨ar, r, rfl⟩
 ·simp at hlen; omega
 rw [List.concat_eq_append] at *
 have hP:zn g = (([103, 97, 109, 101] ++ (32 :: decD (ar ++ [r]).length)) ++ ([10] ++ (lsS 0 ar ++ (zbw ar.length r.o r.p ++ r.m.flatMap mvS)))) ++ [10]:=by
  rw [e, zdq, lsS_app, zea, Nat.zero_add]
  show _ ++ ([10] ++ (lsS 0 ar ++ (_ ++ ([10] ++ [])))) = _
  simp
 have hT:(zn g).take ((zn g).length - 1) = ([103, 97, 109, 101] ++ (32 :: decD (ar ++ [r]).length)) ++ ([10] ++ (lsS 0 ar ++ (zbw ar.length r.o r.p ++ r.m.flatMap mvS))):=by
  rw [hP]
  exact take_less _
 have hl2:((zn g).take ((zn g).length - 1)).length≤262144:=by rw [List.length_take]; omega
 rw [hT] at hl2 ⊢
 have hlr:(ar ++ [r]).length = ar.length + 1:=by simp
 have k2:=(zkn (n:=(ar ++ [r]).length) (by omega) (zfm _ true)).2
 generalize ([103, 97, 109, 101] ++ (32 :: decD (ar ++ [r]).length)) = o1 at *
 have g2:=(zij (by omega:(ar ++ [r]).length≤200) ar 0 (fun x hx=>hr x (by simp [hx])) (by omega) (zfm _ true)).2
 generalize lsS 0 ar = o3 at *
 have w2:=(zmu (i:=ar.length) (by omega) (by omega:(ar ++ [r]).length≤200) (hr r (by simp)) (zfm _ true)).2
 generalize zbw ar.length r.o r.p ++ r.m.flatMap mvS = o4 at *
 obtain ⟨b, tg, tn, s1, b1, b2, b3, b4⟩:=k2 [] ([10] ++ (o3 ++ o4)) (zez _)
 have s2:=Sx.line o1 (o3 ++ o4)
 obtain ⟨t3, s3, R3⟩:=g2 (o1 ++ [10]) o4
 obtain ⟨t4, s4, R4⟩:=w2 (o1 ++ [10] ++ o3) [] nodig_nil
 have S:Sx [] (o1 ++ ([10] ++ (o3 ++ o4))) (b ++ [tg, tn] ++ [⟨1, (o1.length:Nat), [10], 0⟩] ++ t3 ++ t4) (o1 ++ ([10] ++ (o3 ++ o4))) []:=by
  have:=((s1.trans (by simpa using s2)).trans (by simpa using s3)).trans (by simpa using s4)
  simpa [List.append_assoc] using this
 unfold zbk
 rw [scan_all S hl2]
 dsimp only
 generalize hE:(⟨0, ((o1 ++ ([10] ++ (o3 ++ o4))).length:Nat), [], 0⟩:Tok) = E
 have hE0:E.kind = 0:=by rw [← hE]
 have RR:RowsL ((ar ++ [r]).length:Nat) 0 (t3 ++ (t4 ++ [E])) (ar ++ [r]) [E]:=by
  refine (R3 (t4 ++ [E])).app ?_
  have:=R4.rowE (n:=((ar ++ [r]).length:Nat)) (rest:=[]) (hr r (by simp)) hE0
  rw [show ((0:Nat):Int) + (ar.length:Int) = ((ar.length:Nat):Int) by omega]
  exact .cons this .nil
 exact page_fwd ⟨b, tg, tn, ⟨1, (o1.length:Nat), [10], 0⟩ :: (t3 ++ (t4 ++ [E])), t3 ++ (t4 ++ [E]), ar ++ [r], [E], E, by simp [List.append_assoc], b1, b2, ⟨b3, b4⟩, ⟨by omega, by omega⟩, .inr ⟨⟨1, (o1.length:Nat), [10], 0⟩, rfl, rfl⟩, RR, e, ⟨[], rfl, fun t ht=>(by cases ht)⟩, hE0⟩
end Go.Ab.S8
namespace Go.Ab.S8
variable {α:Type} {h:H}
theorem pick_run (k:Nat) {c:Int} {m:Nat} (h1:-9223372036854775808≤c) (h2:c≤9223372036854775807) (hm:1≤m) (hh:H):∃ r:Nat, r < m ∧ ∀ (α:Type) (ret:Int->M α), qv.f (k + 1) c (m:Int) ret hh = ret (r:Int) hh:=by
 have hne:(!decide ((m:Int) = 0)) = true:=by rw [decide_eq_false (by omega)]; rfl
 have key:∀ x:Int, 0≤x->∃ r:Nat, r < m ∧ Int.tmod x (m:Int) = (r:Int):=by
  intro x hx
  have a:=Int.tmod_nonneg (m:Int) hx
  have b:=Int.tmod_lt_of_pos x (show (0:Int) < (m:Int) by omega)
  exact ⟨(Int.tmod x (m:Int)).toNat, by omega, by omega⟩
 by_cases hc:c < 0
 ·obtain ⟨r, hr, e⟩:=key (-(c + 1)) (by omega)
  refine ⟨r, hr, fun α ret=>?_⟩
  rw [qv.f, qv.u1.f, dT hc, cond_true, zu hne, jl (n:=c + 1) (by omega) (by omega), show (0:Int) - (c + 1) = -(c + 1) by omega, jl (by omega) (by omega), e]
 ·obtain ⟨r, hr, e⟩:=key c (by omega)
  refine ⟨r, hr, fun α ret=>?_⟩
  rw [qv.f, qv.u1.f, dF hc, cond_false, zu hne, e]
def LastC (text:List UInt8) (i K:Nat):Prop:=(K = 0 ∧ ∀ j, j < i->text[j]? ≠ some 58) ∨ (K < i ∧ text[K]? = some 58 ∧ ∀ j, K < j->j < i->text[j]? ≠ some 58)
theorem cut_loop (k:Nat) {text:List UInt8} (hl:text.length≤262144) (n:Int) (q:Ad) {h:H}:∀ (f i K:Nat), i≤text.length->text.length - i < f->LastC text i K->∃ K', LastC text text.length K' ∧
  ∀ (α:Type) (kx:Int->Ad->List UInt8->Int->M α), ql.u4.l k kx f n q text (K:Int) (i:Int) h = kx n q text (K':Int) h:=by
 intro f
 induction f with
 | zero=>intro i K _ hf; omega
 | succ f ih=>
  intro i K hi hf I
  by_cases hlt:i < text.length
  ·have hc:text[i]? = some text[i]:=List.getElem?_eq_getElem hlt
   have hw:w64 ((i:Int) + 1) = ((i + 1:Nat):Int):=by rw [jl (by omega) (by omega)]; omega
   by_cases h58:text[i] = 58
   ·have I':LastC text (i + 1) i:=.inr ⟨by omega, by rw [hc, h58], fun j h1 h2=>by omega⟩
    obtain ⟨K', e1, e2⟩:=ih (i + 1) i (by omega) (by omega) I'
    refine ⟨K', e1, fun α kx=>?_⟩
    rw [ql.u4.l, ql.u3.f, dT (by omega:(i:Int) < (text.length:Int)), cond_true, jz rfl hc, dT (by rw [h58]; rfl), cond_true, hw, e2]
   ·have h58':¬ (text[i].toNat:Int) = 58:=fun e=>h58 (UInt8.toNat_inj.1 (show text[i].toNat = 58 by omega))
    have hn:text[i]? ≠ some 58:=by rw [hc]; intro e; exact h58 (Option.some.inj e)
    have I':LastC text (i + 1) K:=by
     rcases I with ⟨h1, h2⟩ | ⟨h1, h2, h3⟩
     ·refine .inl ⟨h1, fun j hj=>?_⟩
      rcases Nat.lt_or_ge j i with h | h
      ·exact h2 j h
      ·rw [show j = i by omega]; exact hn
     ·refine .inr ⟨by omega, h2, fun j g1 g2=>?_⟩
      rcases Nat.lt_or_ge j i with h | h
      ·exact h3 j g1 h
      ·rw [show j = i by omega]; exact hn
    obtain ⟨K', e1, e2⟩:=ih (i + 1) K (by omega) (by omega) I'
    refine ⟨K', e1, fun α kx=>?_⟩
    rw [ql.u4.l, ql.u3.f, dT (by omega:(i:Int) < (text.length:Int)), cond_true, jz rfl hc, dF h58', cond_false, hw, e2]
  ·have:i = text.length:=by omega
   subst this
   refine ⟨K, I, fun α kx=>?_⟩
   rw [ql.u4.l, ql.u3.f, dF (by omega), cond_false]
theorem has_colon {g:Gm} (ok:Ok g) {K:Nat} (I:LastC (zn g) (zn g).length K):K < (zn g).length ∧ (zn g)[K]? = some 58 ∧ ∀ j, K < j->(zn g)[j]? ≠ some 58:=by
 rcases I with ⟨_, h2⟩ | ⟨h1, h2, h3⟩
 ·exfalso
  have h0:(zn g).count 58 = 0:=by
   rw [List.count_eq_zero]
   intro hm
   obtain ⟨j, hj⟩:=List.getElem?_of_mem hm
   exact h2 j (zar hj) hj
  have:=zki ok
  have:=ok.n1
  omega
 ·refine ⟨h1, h2, fun j hj e=>?_⟩
  exact h3 j hj (zar e) e
theorem cut_run (k:Nat) (hk:400000≤k) {o p m:Sl} {g:Gm} (r:GmR h o p m g) (hb:GB k g) {c:Int} (c1:-9223372036854775808≤c) (c2:c≤9223372036854775807) :
  ∃ h', ∀ (α:Type) (ret:Bool->M α), ql.f (k + 8) o p m c ret h = ret true h':=by
 have x1:Ext h (h.push (gC o p m)):=(Ext.refl h).push _
 have b1:(h.push (gC o p m)).get h.next = some (gC o p m):=yg _
 have n1:(h.push (gC o p m)).next = h.next + 1:=rfl
 obtain ⟨h2, x2, e2⟩:=shown_run (h:=h.push (gC o p m)) k (by omega)
 obtain ⟨h3, x3, e3⟩:=zkk (k + 1) (r.ext (x1.trans x2)) (hb.mono (by omega)) (by omega)
 have c1':∀ {g:H}, Ext (h.push (gC o p m)) g->g.get h.next = some (gC o p m):=fun x=>by rw [x.2 _ (by omega)]; exact b1
 have start:∀ (α:Type) (ret:Bool->M α), ql.f (k + 8) o p m c ret h = _:=fun α ret=>by
  rewrite [ql.f]
  unfold ql.u9.f ql.u1.f
  rewrite [jh rfl, e2, g_o' (c1' x2), g_p' (c1' x2), g_m' (c1' x2), e3, Bool.not_true, cond_false]
  exact rfl
 by_cases q1:(zda g).2 = 0
 ·have ok:=zkj.1 q1
  rw [if_pos q1] at start
  have hlen:=(zfe ok).1
  have hl2:(zn g).length≤262144:=by omega
  obtain ⟨K, I, eL⟩:=cut_loop (k + 7) hl2 c ⟨h.next, 0⟩ (h:=h3) (k + 7) 0 0 (Nat.zero_le _) (by omega) (.inl ⟨rfl, fun j hj=>by omega⟩)
  obtain ⟨k1, k2, k3⟩:=has_colon ok I
  obtain ⟨n, hn, eP⟩:=pick_run (k + 6) c1 c2 (show 1≤K + 2 by omega) h3
  have A4:=zen (k + 1) (by omega) ((zn g).take n) h3
  cases hp:zbk ((zn g).take n) with
  | ok g'=>exact (cut_err ok k2 k3 (by omega) hp).elim
  | error e=>
   obtain ⟨at', er⟩:=e
   rw [hp] at A4
   obtain ⟨i4, h4, e4, x4, hi4, hl4, hg4⟩:=A4
   obtain ⟨p1, p2, p3⟩:=parse_err hp
   rw [List.length_take] at p2
   have x5:Ext h4 (h4.push (gC Sl.nil Sl.nil Sl.nil)):=(Ext.refl h4).push _
   have b5:(h4.push (gC Sl.nil Sl.nil Sl.nil)).get h4.next = some (gC Sl.nil Sl.nil Sl.nil):=yg _
   have n5:(h4.push (gC Sl.nil Sl.nil Sl.nil)).next = h4.next + 1:=rfl
   have f1:=fun (α:Type) (ret:Int->Int->M α)=>zjy (k + 5) ret (h4.push (gC Sl.nil Sl.nil Sl.nil)) i4 at' er (by have:=x5.1; omega) (by rw [x5.2 _ hl4]; exact hg4)
   have x6:Ext (h4.push (gC Sl.nil Sl.nil Sl.nil)) ((h4.push (gC Sl.nil Sl.nil Sl.nil)).push (.cells [.ptr (some ⟨i4, 0⟩)] true)):=(Ext.refl _).push _
   generalize (h4.push (gC Sl.nil Sl.nil Sl.nil)).push (.cells [.ptr (some ⟨i4, 0⟩)] true) = h6 at f1 x6
   have A7:=zen (k + 1) (by omega) ((zn g).take ((zn g).length - 1)) h6
   rw [zny ok] at A7
   obtain ⟨o7, p7, m7, h7, e7, x7, G7⟩:=A7
   have x8:Ext h7 (h7.push (gC o7 p7 m7)):=(Ext.refl h7).push _
   have b8:(h7.push (gC o7 p7 m7)).get h7.next = some (gC o7 p7 m7):=yg _
   have y38:=(((x4.trans x5).trans x6).trans x7).trans x8
   have y28:=x3.trans y38
   obtain ⟨h9, x9, e9⟩:=same_run (k + 5) (G7.gm.ext x8) (r.ext ((x1.trans x2).trans y28)) (ok.gb.mono (by omega))
   have c5:∀ {g:H}, Ext (h4.push (gC Sl.nil Sl.nil Sl.nil)) g->g.get h4.next = some (gC Sl.nil Sl.nil Sl.nil):=fun x=>by rw [x.2 _ (by omega)]; exact b5
   refine ⟨h9, fun α ret=>?_⟩
   rw [start, dF (zfe ok).2, cond_false]
   unfold ql.u8.f ql.u6.f ql.u2.f ql.u5.f ql.u4.f
   refine (eL α _).trans ?_
   unfold ql.u7.f
   dsimp only
   have w1:w64 ((K:Int) + 2) = ((K + 2:Nat):Int):=by rw [jl (by omega) (by omega)]; omega
   have w2:w64 (((zn g).length:Int) - 1) = (((zn g).length - 1:Nat):Int):=by rw [jl (by omega) (by omega)]; omega
   have e10:∀ (v:V) (t:Nat) (K:Bool->M α), asNil (.iface t v) K = K false:=fun _ _ _=>rfl
   have e11:∀ (K:Bool->M α), asNil .nilIface K = K true:=fun _=>rfl
   have y:=(x2.trans y28)
   rw [w1, eP, dF (by omega), cond_false, zkz rfl (by omega), e4, g_new, f1, w2, zkz rfl (by omega), e7, g_new, g_o' b8, g_p' b8, g_m' b8, g_o' (c1' y), g_p' (c1' y), g_m' (c1' y), e9]
   rw [e10, Bool.not_false, cond_true, dF p3, Bool.not_false, cond_true, g_o (c5 (((x6.trans x7).trans x8).trans x9)), dT (by rfl), cond_true, dT p1, cond_true, dT (by omega), cond_true, e11, cond_true, dT rfl]
 ·refine ⟨h3, fun α ret=>?_⟩
  rw [start, if_neg q1, dT rfl, cond_true]
theorem PagesCut_law {o p m:Sl} {g:Gm} (r:GmR h o p m g) (hb:GN g) (c:Int) (w:(Lit.int .i64 c).wf = true):∃ k h', ∀ (α:Type) (ret:Bool->M α), ql.f (k + 1) o p m c ret h = ret true h':=by
 have hb':-9223372036854775808≤c ∧ c≤9223372036854775807:=by
  simp only [Lit.wf, IntKind.min, IntKind.max, IntKind.signed, IntKind.bits] at w
  simpa using w
 obtain ⟨c1, c2⟩:=hb'
 obtain ⟨h', e⟩:=cut_run (400000 + (g.ow.length + g.pr.length + g.mv.length + (g.mv.map List.length).sum + 1)) (by omega) r (hb.gb.mono (by omega)) c1 c2
 exact ⟨_, h', e⟩
end Go.Ab.S8
