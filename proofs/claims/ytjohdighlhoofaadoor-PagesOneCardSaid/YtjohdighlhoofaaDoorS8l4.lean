import Derived.Test.YtjohdighlhoofaaDoorS8l3
set_option linter.unusedVariables false
set_option linter.unusedSimpArgs false
namespace Go.Ab.S8
theorem zdn:∀ n, n < 1000->zgg (decD n) = false ∧ numF (decD n) = (n:Int) ∧ (decD n).all jk = true ∧ (decD n) ≠ []:=by decide +kernel
theorem zng {c:UInt8} (h:jk c = true):ja c.toNat = 4:=by
 simp only [jk, Bool.and_eq_true, decide_eq_true_eq] at h
 unfold ja
 rw [if_neg (by omega), if_neg (by omega), if_neg (by omega), if_pos (by omega)]
theorem Sc.num (p:List UInt8) {w r:List UInt8} (hne:w ≠ []) (hd:w.all jk = true) (hb:zgg w = false) (hr:∀ b s, r = b :: s->jk b = false) :
  Sc (p ++ (w ++ r)) p.length [⟨4, p.length, w, numF w⟩] (p.length + w.length):=by
 cases w with
 | nil=>exact absurd rfl hne
 | cons c w=>
  rw [List.all_cons, Bool.and_eq_true] at hd
  have hk:=zng hd.1
  have hall:∀ b ∈ w, jk b = true:=List.all_eq_true.1 hd.2
  have hg:(p ++ ((c :: w) ++ r))[p.length]? = some c:=by simp
  have htw:(w ++ r).takeWhile jk = w:=by
   cases r with
   | nil=>rw [List.append_nil]; exact yr jk w hall
   | cons b s=>rw [yk jk b s (hr b s rfl)]; exact yr jk w hall
  have hword:zx (p ++ ((c :: w) ++ r)) p.length c = c :: w:=by
   unfold zx
   rw [zhg, hk]
   unfold zaq
   rw [if_pos rfl]
   rw [List.cons_append, List.drop_succ_cons, List.drop_zero, htw, Nat.add_comm, List.take_succ_cons, List.take_left]
  have ht:tokF (p ++ ((c :: w) ++ r)) p.length c = (⟨4, p.length, c :: w, numF (c :: w)⟩, 0):=by
   unfold tokF
   rw [hword, hk, if_neg (by omega), if_neg (by omega), if_pos rfl, hb]
   rfl
  have h1:=hd.1
  simp only [jk, Bool.and_eq_true, decide_eq_true_eq] at h1
  have hbl:yt c = false:=by
   unfold yt
   rw [decide_eq_false (by omega), decide_eq_false (by omega)]; rfl
  have hm:zam c = false:=decide_eq_false (by omega)
  have:=Sc.tok (text:=p ++ ((c :: w) ++ r)) (n:=p.length) (m:=p.length + (c :: w).length) (ts:=[]) hg hbl hm (by rw [ht]) (by
   rw [hword]
   exact .nil (by simp))
  rw [ht] at this
  exact this
theorem Sx.num (p:List UInt8) (n:Nat) (hn:n < 1000) (r:List UInt8) (hr:∀ b s, r = b :: s->jk b = false):Sx p (decD n ++ r) [⟨4, p.length, decD n, (n:Int)⟩] (p ++ decD n) r:=by
 obtain ⟨h1, h2, h3, h4⟩:=zdn n hn
 refine ⟨by simp, ?_⟩
 have:=Sc.num p h4 h3 h1 hr
 rw [h2] at this
 rw [List.length_append]
 exact this
theorem Sx.line (p r:List UInt8):Sx p (10 :: r) [⟨1, p.length, [10], 0⟩] (p ++ [10]) r:=⟨by simp, by have:=Sc.line p r; simpa using this⟩
theorem Sx.nil (p r:List UInt8):Sx p r [] p r:=⟨rfl, .nil (by simp)⟩
theorem Sx.blank (p r:List UInt8) {c:UInt8} (h:yt c = true):Sx p (c :: r) [] (p ++ [c]) r:=⟨by simp, by
 rw [List.length_append]
 exact .blank (get_at p c r) h (.nil (by simp))⟩
theorem Sx.rem (p w r:List UInt8) (hw:∀ b ∈ w, b ≠ 10):Sx p (35 :: (w ++ 10 :: r)) [] (p ++ 35 :: w) (10 :: r):=by
 refine ⟨by simp, ?_⟩
 have hg:(p ++ 35 :: (w ++ 10 :: r))[p.length]? = some 35:=by simp
 have hrm:remF ((p ++ 35 :: (w ++ 10 :: r)).drop p.length) = (35 :: w).length:=by
  rw [zhg]
  unfold remF
  have:(35 :: (w ++ 10 :: r)) = (35 :: w) ++ 10 :: r:=rfl
  rw [this, yk _ 10 r (by decide), yr _ _ (fun b hb=>by
   rcases List.mem_cons.1 hb with rfl | hb
   ·decide
   ·simpa using hw b hb)]
 rw [List.length_append]
 refine .rem hg rfl rfl ?_
 rw [hrm]
 exact .nil (by simp)
def zjc (a:List UInt8):Prop:=∀ b ∈ a, yt b = true
theorem Sx.blanks:∀ (a p r:List UInt8), zjc a->Sx p (a ++ r) [] (p ++ a) r
 | [], p, r, _=>by simpa using Sx.nil p r
 | b :: a, p, r, h=>by
  have h1:=Sx.blank p (a ++ r) (h b List.mem_cons_self)
  have h2:=Sx.blanks a (p ++ [b]) r fun c hc=>h c (List.mem_cons_of_mem _ hc)
  have:=h1.trans h2
  simpa using this
def LineN (a:List UInt8):Prop:=∀ p r, ∃ ts, Sx p (a ++ r) ts (p ++ a) r ∧ ∀ t ∈ ts, t.kind = 1
theorem zmx {a:List UInt8} (h:zjc a):LineN a:=fun p r=>⟨[], Sx.blanks a p r h, fun t ht=>by cases ht⟩
def NzA (st:Bool) (c:UInt8) (add:List UInt8):Prop:=if c = 32 then zjc add else if st = true then LineN add else add = []
inductive Nz:Bool->List UInt8->List UInt8->Prop
 | nil {st:Bool}:Nz st [] []
 | cons {st:Bool} {c:UInt8} {s add out:List UInt8}:NzA st c add->Nz (decide (c = 10)) s out->Nz st (c :: s) (add ++ c :: out)
def jr (st:Bool):List UInt8->Bool
 | []=>st
 | c :: s=>jr (decide (c = 10)) s
theorem Nz.split:∀ {a b out:List UInt8} {st:Bool}, Nz st (a ++ b) out->∃ oa ob, out = oa ++ ob ∧ Nz st a oa ∧ Nz (jr st a) b ob
 | [], b, out, st, h=>⟨[], out, rfl, .nil, h⟩
 | c :: a, b, out, st, h=>by
  cases h with
  | cons h1 h2=>
   rename_i add out
   obtain ⟨oa, ob, e, g1, g2⟩:=Nz.split h2
   exact ⟨add ++ c :: oa, ob, by rw [e]; simp, .cons h1 g1, g2⟩
def zgl (w:List UInt8):Prop:=∀ b ∈ w, b ≠ 32 ∧ b ≠ 10
theorem Nz.word':∀ {w out:List UInt8}, zgl w->Nz false w out->out = w ∧ jr false w = false
 | [], out, _, h=>by cases h; exact ⟨rfl, rfl⟩
 | c :: w, out, hp, h=>by
  cases h with
  | cons h1 h2=>
   have hc:=hp c List.mem_cons_self
   unfold NzA at h1
   rw [if_neg hc.1, if_neg (by decide)] at h1
   rw [decide_eq_false hc.2] at h2
   obtain ⟨e1, e2⟩:=Nz.word' (fun b hb=>hp b (List.mem_cons_of_mem _ hb)) h2
   refine ⟨by rw [h1, e1]; rfl, ?_⟩
   rw [jr, decide_eq_false hc.2]; exact e2
theorem Nz.word {w out:List UInt8} (hne:w ≠ []) (hp:zgl w) (h:Nz true w out):∃ add, out = add ++ w ∧ LineN add ∧ jr true w = false:=by
 cases h with
 | nil=>exact absurd rfl hne
 | cons h1 h2=>
  rename_i c s add out
  have hc:=hp c List.mem_cons_self
  unfold NzA at h1
  rw [if_neg hc.1, if_pos rfl] at h1
  rw [decide_eq_false hc.2] at h2
  obtain ⟨e1, e2⟩:=Nz.word' (fun b hb=>hp b (List.mem_cons_of_mem _ hb)) h2
  refine ⟨add, by rw [e1], h1, ?_⟩
  rw [jr, decide_eq_false hc.2]; exact e2
theorem Nz.sp {w out:List UInt8} (hp:zgl w) (h:Nz false (32 :: w) out):∃ bl, out = bl ++ 32 :: w ∧ zjc bl ∧ jr false (32 :: w) = false:=by
 cases h with
 | cons h1 h2=>
  rename_i add out
  unfold NzA at h1
  rw [if_pos rfl] at h1
  rw [decide_eq_false (by decide)] at h2
  obtain ⟨e1, e2⟩:=Nz.word' hp h2
  exact ⟨add, by rw [e1], h1, e2⟩
theorem Nz.feed {out:List UInt8} (h:Nz false [10] out):out = [10]:=by
 cases h with
 | cons h1 h2=>
  cases h2
  unfold NzA at h1
  rw [if_neg (by decide), if_neg (by decide)] at h1
  rw [h1]; rfl
theorem zan (n:Nat) (hn:n < 1000):zgl (decD n):=by
 have h:=List.all_eq_true.1 (zdn n hn).2.2.1
 intro b hb
 have:=h b hb
 simp only [jk, Bool.and_eq_true, decide_eq_true_eq] at this
 refine ⟨fun e=>?_, fun e=>?_⟩ <;> (subst e; revert this; decide)
def zel (r:List UInt8):Prop:=∀ b s, r = b :: s->jk b = false
theorem zms {bl r:List UInt8} (h:zjc bl):zel (bl ++ 32 :: r):=by
 intro b s e
 cases bl with
 | nil=>cases e; rfl
 | cons c bl=>
  cases e
  have:=h b List.mem_cons_self
  simp only [yt, Bool.or_eq_true, decide_eq_true_eq] at this
  unfold jk
  rcases this with h | h
  ·rw [decide_eq_false (by omega)]; rfl
  ·rw [decide_eq_false (by omega)]; rfl
theorem zir (r:List UInt8):zel (10 :: r):=by intro b s e; cases e; rfl
theorem zlh {n:Nat} (hn:n < 1000) {out:List UInt8} (h:Nz false (32 :: decD n) out):(∀ r, zel (out ++ r)) ∧ ∀ p r, zel r->∃ t, Sx p (out ++ r) [t] (p ++ out) r ∧ t.kind = 4 ∧ t.num = (n:Int):=by
 obtain ⟨bl, rfl, hb, _⟩:=h.sp (zan n hn)
 refine ⟨fun r=>?_, fun p r hr=>?_⟩
 ·rw [List.append_assoc, List.cons_append]; exact zms hb
 ·have h1:=Sx.blanks bl p (32 :: (decD n ++ r)) hb
  have h2:=Sx.blank (p ++ bl) (decD n ++ r) (c:=32) rfl
  have h3:=Sx.num (p ++ bl ++ [32]) n hn r hr
  refine ⟨_, by have:=(h1.trans h2).trans h3; simpa using this, rfl, rfl⟩
theorem sp_colon {out:List UInt8} (h:Nz false [32, 58] out):(∀ r, zel (out ++ r)) ∧ ∀ p r, ∃ t, Sx p (out ++ r) [t] (p ++ out) r ∧ t.kind = 5 ∧ t.text = [58]:=by
 obtain ⟨bl, rfl, hb, _⟩:=h.sp (w:=[58]) (fun b hb=>by obtain rfl:=List.mem_singleton.1 hb; decide)
 refine ⟨fun r=>?_, fun p r=>?_⟩
 ·rw [List.append_assoc, List.cons_append]; exact zms hb
 ·have h1:=Sx.blanks bl p (32 :: 58 :: r) hb
  have h2:=Sx.blank (p ++ bl) (58 :: r) (c:=32) rfl
  have h3:=Sx.sign (p ++ bl ++ [32]) 58 r _ rfl (by decide) (by decide)
  refine ⟨_, by have:=(h1.trans h2).trans h3; simpa using this, rfl, rfl⟩
theorem sp_nums:∀ {l:List Int} {out:List UInt8}, (∀ v ∈ l, 0≤v ∧ v < 1000)->Nz false (l.flatMap mvS) out->jr false (l.flatMap mvS) = false ∧ (∀ r, zel r->zel (out ++ r)) ∧ ∀ p r, zel r->∃ ms, Sx p (out ++ r) ms (p ++ out) r ∧ (∀ t ∈ ms, t.kind = 4) ∧ ms.map Tok.num = l
 | [], out, _, h=>by
  cases h
  exact ⟨rfl, fun r hr=>hr, fun p r hr=>⟨[], by simpa using Sx.nil p r, fun t ht=>(by cases ht), rfl⟩⟩
 | v :: l, out, hl, h=>by
  rw [List.flatMap_cons] at h
  obtain ⟨oa, ob, rfl, h1, h2⟩:=h.split
  have hv:=hl v List.mem_cons_self
  obtain ⟨n, rfl⟩:=Int.eq_ofNat_of_zero_le hv.1
  have hn:n < 1000:=by omega
  have h1:Nz false (32 :: decD n) oa:=h1
  have hlast:jr false (mvS (n:Int)) = false:=(h1.sp (zan n hn)).choose_spec.2.2
  rw [hlast] at h2
  obtain ⟨k1, k2, k3⟩:=sp_nums (fun w hw=>hl w (List.mem_cons_of_mem _ hw)) h2
  obtain ⟨g1, g2⟩:=zlh hn h1
  refine ⟨?_, fun r hr=>by rw [List.append_assoc]; exact g1 _, fun p r hr=>?_⟩
  ·have happ:∀ (a b:List UInt8) (st:Bool), jr st (a ++ b) = jr (jr st a) b:=by
    intro a
    induction a with
    | nil=>intro b st; rfl
    | cons c a ih=>intro b st; exact ih b _
   rw [List.flatMap_cons, happ, hlast]; exact k1
  ·obtain ⟨t, t1, t2, t3⟩:=g2 p (ob ++ r) (k2 r hr)
   obtain ⟨ms, m1, m2, m3⟩:=k3 (p ++ oa) r hr
   refine ⟨t :: ms, by have:=t1.trans m1; simpa using this, fun u hu=>?_, by rw [List.map_cons, t3, m3]⟩
   rcases List.mem_cons.1 hu with rfl | hu
   ·exact t2
   ·exact m2 u hu
theorem zag:∀ (a b:List UInt8) (st:Bool), jr st (a ++ b) = jr (jr st a) b
 | [], _, _=>rfl
 | _ :: a, b, _=>zag a b _
end Go.Ab.S8
namespace Go.Ab.S8
theorem zex {kind:Int} {text:List UInt8} {t:Tok} {r:List Tok} (h0:kind ≠ 0) (hk:t.kind = kind) (ht:text = [] ∨ t.text = text):zu kind text ⟨t :: r, none⟩ = (t.num, ⟨r, none⟩):=by
 rw [zbr (s:=⟨t :: r, none⟩) rfl ⟨hk, ht⟩, if_neg h0]; rfl
theorem zfe {a b e:Int} {t:Tok} {r:List Tok} (hk:t.kind = 4) (ha:a≤t.num) (hb:t.num≤b):numP a b e ⟨t :: r, none⟩ = (t.num, ⟨r, none⟩):=by
 unfold numP
 rw [if_neg (fun c=>by have h2:t.num < a ∨ b < t.num:=c.2; omega)]
 exact zex (by decide) hk (.inl rfl)
theorem zdy:∀ {b:List Tok} {t:Tok} {r:List Tok}, (∀ t ∈ b, t.kind = 1)->t.kind ≠ 1->zap (b ++ t :: r) = t :: r
 | [], t, r, _, ht=>by rw [List.nil_append, zap, if_neg ht]
 | u :: b, t, r, h, ht=>by rw [List.cons_append, zap, if_pos (h u List.mem_cons_self)]; exact zdy (fun x hx=>h x (List.mem_cons_of_mem _ hx)) ht
theorem mvs_fwd (n:Int):∀ (ms:List Tok) (f:Nat) (acc:List Int) (last:Int) (e:Tok) (x:List Tok), (∀ t ∈ ms, t.kind = 4)->yu n last (ms.map Tok.num) = true->e.kind ≠ 4->ms.length < f ->
  mvsP n f acc last ⟨ms ++ e :: x, none⟩ = (acc ++ ms.map Tok.num, ⟨e :: x, none⟩)
 | [], f + 1, acc, last, e, x, _, _, he, _=>by
  rw [mvsP, if_neg (fun c=>he c.2)]; simp
 | t :: ms, f + 1, acc, last, e, x, hm, hb, he, hf=>by
  simp only [List.map_cons, yu, Bool.and_eq_true, decide_eq_true_eq] at hb
  have hk:=hm t List.mem_cons_self
  rw [mvsP, if_pos ⟨rfl, hk⟩, List.cons_append, zfe hk (by omega) (by omega)]
  dsimp only
  rw [mvs_fwd n ms f _ _ e x (fun u hu=>hm u (List.mem_cons_of_mem _ hu)) hb.2 he (by simpa using hf)]
  simp
theorem end_fwd {rest l':List Tok} (h:(rest = l' ∧ ∃ e x, rest = e :: x ∧ e.kind = 0) ∨ ∃ e, rest = e :: l' ∧ e.kind = 1):endP ⟨rest, none⟩ = ⟨l', none⟩:=by
 unfold endP
 rcases h with ⟨rfl, e, x, rfl, he⟩ | ⟨e, rfl, he⟩
 ·rw [if_pos (show (⟨e :: x, none⟩:St).hd.kind = 0 from he)]
 ·rw [if_neg (show ¬ (⟨e :: l', none⟩:St).hd.kind = 0 by show ¬ e.kind = 0; omega), zex (by decide) he (.inl rfl)]
theorem row_fwd {n i:Int} {l l':List Tok} {r:Rw} (h:RowL n i l l' r):rowP n i ⟨l, none⟩ = (r, ⟨l', none⟩):=by
 obtain ⟨b, ti, to', tp, tc, ms, rest, rfl, hb, ⟨i1, i2⟩, ⟨o1, o2⟩, ⟨p1, p2⟩, ⟨c1, c2⟩, m1, m2, hr⟩:=h.ex
 have ok:=h.ok
 have e1:zh ⟨b ++ (ti :: to' :: tp :: tc :: (ms ++ rest)), none⟩ = ⟨ti :: to' :: tp :: tc :: (ms ++ rest), none⟩:=by
  unfold zh
  dsimp only
  rw [zdy hb (by omega)]
 have ho:=ok.o
 have hp:=ok.p
 have hre:∃ e x, rest = e :: x ∧ e.kind ≠ 4:=by
  rcases hr with ⟨_, e, x, h1, h2⟩ | ⟨e, h1, h2⟩
  ·exact ⟨e, x, h1, by omega⟩
  ·exact ⟨e, _, h1, by omega⟩
 obtain ⟨e, x, rfl, he⟩:=hre
 have e2:zai n ⟨ms ++ e :: x, none⟩ = (r.m, ⟨e :: x, none⟩):=by
  unfold zai
  rw [mvs_fwd n ms _ [] (-1) e x m1 (by rw [m2]; exact ok.m) he (by simp; omega), List.nil_append, m2]
  unfold zds
  rw [if_neg (fun c=>ok.ne c.1)]
 unfold rowP
 dsimp only
 rw [e1, zfe i1 (by omega) (by omega)]
 dsimp only
 rw [zfe o1 (by omega) (by omega)]
 dsimp only
 rw [zfe p1 (by omega) (by omega)]
 dsimp only
 rw [zex (by decide) c1 (.inr c2)]
 dsimp only
 rw [e2]
 dsimp only
 rw [end_fwd hr, o2, p2]
theorem rows_fwd {n:Int}:∀ {i:Int} {l l':List Tok} {rs:List Rw}, RowsL n i l rs l'->∀ g, yq n rs.length i g ⟨l, none⟩ = (rs.foldl Gm.add g, ⟨l', none⟩):=by
 intro i l l' rs h
 induction h with
 | nil=>intro g; rfl
 | cons R _ ih=>
  intro g
  rw [List.length_cons, yq, if_pos (show (none:Option (Int × Int)).isNone = true from rfl), row_fwd R]
  dsimp only
  rw [ih]
  rfl
theorem head_fwd {ts b rest l1:List Tok} {tg tn:Tok} (hts:ts = b ++ (tg :: tn :: rest)) (hb:∀ t ∈ b, t.kind = 1) (hg:tg.kind = 2 ∧ tg.text = [103, 97, 109, 101]) (hn:tn.kind = 4) (h1:1≤tn.num) (h2:tn.num≤200)
  (hr:(rest = l1 ∧ ∃ e x, rest = e :: x ∧ e.kind = 0) ∨ ∃ e, rest = e :: l1 ∧ e.kind = 1):jb ⟨ts, none⟩ = (tn.num, ⟨l1, none⟩):=by
 have e1:zh ⟨ts, none⟩ = ⟨tg :: tn :: rest, none⟩:=by
  unfold zh
  dsimp only
  rw [hts, zdy hb (by omega)]
 unfold jb
 dsimp only
 rw [e1, zex (by decide) hg.1 (.inr hg.2)]
 dsimp only
 rw [zfe hn h1 h2]
 dsimp only
 rw [end_fwd hr]
theorem page_fwd {ts:List Tok} {g:Gm} (h:PageL ts g):pageP ts = .ok g:=by
 obtain ⟨b, tg, tn, rest, l1, rs, l2, e, hts, hb, hg, ⟨n1, n2⟩, hn, hr, R, rfl, ⟨b', hl2, hb'⟩, he⟩:=h.ex
 unfold pageP
 rw [head_fwd hts hb hg n1 (by omega) (by omega) hr]
 dsimp only
 rw [n2, show ((rs.length:Int)).toNat = rs.length from Int.toNat_natCast _, rows_fwd R]
 unfold zeo
 dsimp only
 have e2:zh ⟨l2, none⟩ = ⟨[e], none⟩:=by
  unfold zh
  dsimp only
  rw [hl2, zdy hb' (by omega)]
 rw [e2, zbr (s:=⟨[e], none⟩) rfl ⟨he, .inl rfl⟩, if_pos rfl]
 dsimp only
 rw [zis]
 rfl
structure RowT (i:Int) (ts:List Tok) (r:Rw):Prop where
 ex:∃ b ti to' tp tc ms, ts = b ++ (ti :: to' :: tp :: tc :: ms) ∧ (∀ t ∈ b, t.kind = 1) ∧ (ti.kind = 4 ∧ ti.num = i) ∧ (to'.kind = 4 ∧ to'.num = r.o) ∧ (tp.kind = 4 ∧ tp.num = r.p) ∧ (tc.kind = 5 ∧ tc.text = [58]) ∧ (∀ t ∈ ms, t.kind = 4) ∧ ms.map Tok.num = r.m
theorem RowT.rowL {n i:Int} {ts rest:List Tok} {r:Rw} (h:RowT i ts r) (ok:RowOk n r.o r.p r.m) {f:Tok} (hf:f.kind = 1):RowL n i (ts ++ f :: rest) rest r:=by
 obtain ⟨b, ti, to', tp, tc, ms, rfl, h1, h2, h3, h4, h5, h6, h7⟩:=h.ex
 exact ⟨⟨b, ti, to', tp, tc, ms, f :: rest, by simp, h1, h2, h3, h4, h5, h6, h7, .inr ⟨f, rfl, hf⟩⟩, ok⟩
theorem zah {w:List UInt8} (hne:w ≠ []) (hp:zgl w):∀ st, jr st w = false:=by
 induction w with
 | nil=>exact absurd rfl hne
 | cons c w ih=>
  intro st
  rw [jr, decide_eq_false (hp c List.mem_cons_self).2]
  cases w with
  | nil=>rfl
  | cons d w=>exact ih (by simp) (fun b hb=>hp b (List.mem_cons_of_mem _ hb)) _
theorem row_scan {n i:Nat} {o p:Int} {l:List Int} (hi:i < 1000) (hn:n≤200) (ok:RowOk n o p l) {out:List UInt8} (h:Nz true (zfj i o p ++ l.flatMap mvS) out) :
  jr true (zfj i o p ++ l.flatMap mvS) = false ∧ ∀ P R, zel R->∃ ts, Sx P (out ++ R) ts (P ++ out) R ∧ RowT i ts ⟨o, p, l⟩:=by
 have ho:=ok.o
 have hp:=ok.p
 obtain ⟨on, rfl⟩:=Int.eq_ofNat_of_zero_le ho.1
 obtain ⟨pn, rfl⟩:=Int.eq_ofNat_of_zero_le hp.1
 have hl:∀ v ∈ l, 0≤v ∧ v < 1000:=fun v hv=>by have:=zcz ok.m v hv; omega
 rw [show zfj i (on:Int) (pn:Int) ++ l.flatMap mvS = decD i ++ ((32 :: decD on) ++ ((32 :: decD pn) ++ ([32, 58] ++ l.flatMap mvS))) by
  unfold zfj; simp [Int.toNat_natCast]] at h ⊢
 obtain ⟨o1, x1, rfl, h1, h⟩:=h.split
 rw [zah (zdn i hi).2.2.2 (zan i hi)] at h
 obtain ⟨o2, x2, rfl, h2, h⟩:=h.split
 have q2:jr false (32 :: decD on) = false:=by rw [jr]; exact zah (zdn on (by omega)).2.2.2 (zan on (by omega)) _
 rw [q2] at h
 obtain ⟨o3, x3, rfl, h3, h⟩:=h.split
 have q3:jr false (32 :: decD pn) = false:=by rw [jr]; exact zah (zdn pn (by omega)).2.2.2 (zan pn (by omega)) _
 rw [q3] at h
 obtain ⟨o4, o5, rfl, h4, h5⟩:=h.split
 rw [show jr false [32, 58] = false from rfl] at h5
 obtain ⟨add, rfl, ha, _⟩:=h1.word (zdn i hi).2.2.2 (zan i hi)
 obtain ⟨s2a, s2⟩:=zlh (by omega) h2
 obtain ⟨s3a, s3⟩:=zlh (by omega) h3
 obtain ⟨s4a, s4⟩:=sp_colon h4
 obtain ⟨s5z, s5a, s5⟩:=sp_nums hl h5
 refine ⟨?_, fun P R hR=>?_⟩
 ·rw [zag, zag, zag, zag, zah (zdn i hi).2.2.2 (zan i hi), q2, q3]
  exact s5z
 ·obtain ⟨b, b1, b2⟩:=ha P (decD i ++ (o2 ++ (o3 ++ (o4 ++ (o5 ++ R)))))
  have t1:=Sx.num (P ++ add) i hi (o2 ++ (o3 ++ (o4 ++ (o5 ++ R)))) (s2a _)
  obtain ⟨t2, u2, k2, v2⟩:=s2 (P ++ add ++ decD i) (o3 ++ (o4 ++ (o5 ++ R))) (s3a _)
  obtain ⟨t3, u3, k3, v3⟩:=s3 (P ++ add ++ decD i ++ o2) (o4 ++ (o5 ++ R)) (s4a _)
  obtain ⟨t4, u4, k4, v4⟩:=s4 (P ++ add ++ decD i ++ o2 ++ o3) (o5 ++ R)
  obtain ⟨ms, u5, k5, v5⟩:=s5 (P ++ add ++ decD i ++ o2 ++ o3 ++ o4) R hR
  refine ⟨_, by have:=((((b1.trans t1).trans u2).trans u3).trans u4).trans u5; simpa [List.append_assoc] using this, ⟨b, _, t2, t3, t4, ms, rfl, b2, ⟨rfl, rfl⟩, ⟨k2, v2⟩, ⟨k3, v3⟩, ⟨k4, v4⟩, k5, v5⟩⟩
theorem head_scan {n:Nat} (hn:n < 1000) {out:List UInt8} (h:Nz true ([103, 97, 109, 101] ++ (32 :: decD n)) out) :
  jr true ([103, 97, 109, 101] ++ (32 :: decD n)) = false ∧ ∀ P R, zel R->∃ b tg tn, Sx P (out ++ R) (b ++ [tg, tn]) (P ++ out) R ∧ (∀ t ∈ b, t.kind = 1) ∧ (tg.kind = 2 ∧ tg.text = [103, 97, 109, 101]) ∧ tn.kind = 4 ∧ tn.num = (n:Int):=by
 have hp:zgl [103, 97, 109, 101]:=by intro b hb; simp at hb; rcases hb with rfl | rfl | rfl | rfl <;> decide
 obtain ⟨o1, o2, rfl, h1, h2⟩:=h.split
 rw [zah (by simp) hp] at h2
 have q2:jr false (32 :: decD n) = false:=by rw [jr]; exact zah (zdn n hn).2.2.2 (zan n hn) _
 obtain ⟨add, rfl, ha, _⟩:=h1.word (by simp) hp
 obtain ⟨bl, rfl, hb, _⟩:=h2.sp (zan n hn)
 obtain ⟨s2a, s2⟩:=zlh hn h2
 refine ⟨by rw [zag, zah (by simp) hp]; exact q2, fun P R hR=>?_⟩
 obtain ⟨b, b1, b2⟩:=ha P ([103, 97, 109, 101] ++ (bl ++ 32 :: decD n ++ R))
 have t1:=Sx.name (P ++ add) 103 [97, 109, 101] (bl ++ 32 :: decD n ++ R) _ rfl (kd:=2) (by decide) (.inl rfl) (by decide) (by decide) (fun c s e=>by
  rw [List.append_assoc] at e
  cases bl with
  | nil=>cases e; rfl
  | cons d bl=>
   cases e
   have:=hb c List.mem_cons_self
   simp only [yt, Bool.or_eq_true, decide_eq_true_eq] at this
   have e1:c = 32 ∨ c = 9:=by
    rcases this with h | h
    ·exact .inl (UInt8.toNat_inj.1 (show c.toNat = 32 by omega))
    ·exact .inr (UInt8.toNat_inj.1 (show c.toNat = 9 by omega))
   rcases e1 with rfl | rfl <;> rfl)
 obtain ⟨t2, u2, k2, v2⟩:=s2 (P ++ add ++ [103, 97, 109, 101]) R hR
 refine ⟨b, _, t2, by have:=(b1.trans t1).trans u2; simpa [List.append_assoc] using this, b2, ⟨rfl, rfl⟩, k2, v2⟩
def lsS (i:Nat) (rs:List Rw):List UInt8:=zbw i (rs.map Rw.o) (rs.map Rw.p) (rs.map Rw.m)
theorem lsS_cons (i:Nat) (r:Rw) (rs:List Rw):lsS i (r :: rs) = (zfj i r.o r.p ++ r.m.flatMap mvS) ++ ([10] ++ lsS (i + 1) rs):=by
 show zia i r.o r.p r.m ++ lsS (i + 1) rs = _
 unfold zia
 simp
theorem RowsL.app {n:Int} {i:Int} {l l' l'':List Tok} {rs rs':List Rw} (h:RowsL n i l rs l'):RowsL n (i + rs.length) l' rs' l''->RowsL n i l (rs ++ rs') l'':=by
 induction h with
 | nil=>intro g; simpa using g
 | cons R _ ih=>
  intro g
  refine .cons R (ih ?_)
  simp only [List.length_cons] at g
  rw [show ∀ (i:Int) (k:Nat), i + 1 + (k:Int) = i + ((k + 1:Nat):Int) by intro i k; omega]
  exact g
theorem zif {n:Nat} (hn:n≤200):∀ (rs:List Rw) (i:Nat) {out:List UInt8}, (∀ r ∈ rs, RowOk n r.o r.p r.m)->i + rs.length≤1000->Nz true (lsS i rs) out ->
  jr true (lsS i rs) = true ∧ ∀ P R, ∃ ts, Sx P (out ++ R) ts (P ++ out) R ∧ ∀ rest, RowsL n i (ts ++ rest) rs rest
 | [], i, out, _, _, h=>by
  cases h
  exact ⟨rfl, fun P R=>⟨[], by simpa using Sx.nil P R, fun rest=>.nil⟩⟩
 | r :: rs, i, out, hr, hi, h=>by
  rw [lsS_cons] at h ⊢
  simp only [List.length_cons] at hi
  obtain ⟨o1, x1, rfl, h1, h⟩:=h.split
  obtain ⟨k1, k2⟩:=row_scan (by omega) hn (hr r List.mem_cons_self) h1
  rw [k1] at h
  obtain ⟨o2, o3, rfl, h2, h3⟩:=h.split
  obtain rfl:=h2.feed
  rw [show jr false [10] = true from rfl] at h3
  obtain ⟨g1, g2⟩:=zif hn rs (i + 1) (fun r hr'=>hr r (List.mem_cons_of_mem _ hr')) (by omega) h3
  refine ⟨by rw [zag, zag, k1]; exact g1, fun P R=>?_⟩
  obtain ⟨t1, s1, R1⟩:=k2 P ([10] ++ o3 ++ R) (by
   rw [List.append_assoc]; exact zir _)
  have s2:=Sx.line (P ++ o1) (o3 ++ R)
  obtain ⟨t3, s3, R3⟩:=g2 (P ++ o1 ++ [10]) R
  refine ⟨_, by
   have:=(s1.trans (q:=P ++ o1) (us:=_) (v:=_) (by simpa using s2)).trans s3
   simpa [List.append_assoc] using this, fun rest=>?_⟩
  have:=R1.rowL (n:=n) (rest:=t3 ++ rest) (hr r List.mem_cons_self) (f:=⟨1, ((P ++ o1).length:Nat), [10], 0⟩) rfl
  have e:((i:Nat):Int) + 1 = ((i + 1:Nat):Int):=by omega
  have hc:RowsL n i (t1 ++ ⟨1, ((P ++ o1).length:Nat), [10], 0⟩ :: (t3 ++ rest)) (r :: rs) rest:=.cons this (by rw [e]; exact R3 rest)
  simpa [List.append_assoc] using hc
theorem ok_rows {g:Gm} (h:Ok g):∃ rs, g = zbu rs ∧ rs.length = g.mv.length ∧ ∀ r ∈ rs, RowOk g.mv.length r.o r.p r.m:=by
 have key:∀ (os ps:List Int) (ls:List (List Int)), os.length = ls.length->ps.length = ls.length->∃ rs:List Rw, rs.map Rw.o = os ∧ rs.map Rw.p = ps ∧ rs.map Rw.m = ls:=by
  intro os
  induction os with
  | nil=>intro ps ls h1 h2; exact ⟨[], rfl, by cases ls <;> simp_all, by cases ls <;> simp_all⟩
  | cons o os ih=>
   intro ps ls h1 h2
   cases ls with
   | nil=>simp at h1
   | cons l ls=>
    cases ps with
    | nil=>simp at h2
    | cons p ps=>
     obtain ⟨rs, e1, e2, e3⟩:=ih ps ls (by simpa using h1) (by simpa using h2)
     exact ⟨⟨o, p, l⟩ :: rs, by simp [e1], by simp [e2], by simp [e3]⟩
 obtain ⟨rs, e1, e2, e3⟩:=key g.ow g.pr g.mv h.l1 h.l2
 refine ⟨rs, by unfold zbu; rw [e1, e2, e3], by rw [← e3]; simp, fun r hr=>?_⟩
 obtain ⟨i, hi⟩:=List.getElem?_of_mem hr
 exact h.row i _ _ _ (by rw [← e1, List.getElem?_map, hi]; rfl) (by rw [← e2, List.getElem?_map, hi]; rfl) (by rw [← e3, List.getElem?_map, hi]; rfl)
theorem zmm (rs:List Rw):zbl (zbu rs) = ([103, 97, 109, 101] ++ (32 :: decD rs.length)) ++ ([10] ++ lsS 0 rs):=by
 unfold zbl topS zbu lsS
 simp
theorem scan_all {s:List UInt8} {ts:List Tok} (h:Sx [] s ts s []) (hl:s.length≤262144):zbb s = .ok (ts ++ [⟨0, (s.length:Nat), [], 0⟩]):=by
 have:=h.2
 rw [List.nil_append] at this
 exact this.okF hl
theorem zmj {g:Gm} (ok:Ok g) {out:List UInt8} (h:Nz true (zbl g) out) (hl:out.length≤262144):zbf out = .ok g:=by
 obtain ⟨rs, e, hlen, hr⟩:=ok_rows ok
 rw [← hlen] at hr
 have n1:=ok.n1
 have n2:=ok.n2
 rw [e, zmm] at h
 obtain ⟨o1, x1, rfl, h1, h⟩:=h.split
 obtain ⟨k1, k2⟩:=head_scan (by omega) h1
 rw [k1] at h
 obtain ⟨o2, o3, rfl, h2, h3⟩:=h.split
 obtain rfl:=h2.feed
 rw [show jr false [10] = true from rfl] at h3
 obtain ⟨_, g2⟩:=zif (by omega:rs.length≤200) rs 0 hr (by omega) h3
 obtain ⟨b, tg, tn, s1, b1, b2, b3, b4⟩:=k2 [] ([10] ++ o3) (zir _)
 have s2:=Sx.line o1 o3
 obtain ⟨t3, s3, R3⟩:=g2 (o1 ++ [10]) []
 have S:Sx [] (o1 ++ ([10] ++ o3)) (b ++ [tg, tn] ++ [⟨1, (o1.length:Nat), [10], 0⟩] ++ t3) (o1 ++ ([10] ++ o3)) []:=by
  have:=(s1.trans (by simpa using s2)).trans (by simpa using s3)
  simpa [List.append_assoc] using this
 unfold zbf
 rw [scan_all S hl]
 dsimp only
 refine page_fwd ⟨b, tg, tn, ⟨1, (o1.length:Nat), [10], 0⟩ :: (t3 ++ [⟨0, ((o1 ++ ([10] ++ o3)).length:Nat), [], 0⟩]), t3 ++ [⟨0, ((o1 ++ ([10] ++ o3)).length:Nat), [], 0⟩], rs, [⟨0, ((o1 ++ ([10] ++ o3)).length:Nat), [], 0⟩], _, by simp [List.append_assoc], b1, b2, ⟨b3, b4⟩, ⟨by omega, by omega⟩, .inr ⟨⟨1, (o1.length:Nat), [10], 0⟩, rfl, rfl⟩, R3 _, e, ⟨[], rfl, fun t ht=>(by cases ht)⟩, rfl⟩
theorem nz_refl:∀ (s:List UInt8) (st:Bool), Nz st s s
 | [], st=>.nil
 | c :: s, st=>by
  have:=Nz.cons (st:=st) (c:=c) (add:=[]) (by
   unfold NzA
   split
   ·intro b hb; cases hb
   ·split
    ·exact zmx fun b hb=>by cases hb
    ·rfl) (nz_refl s (decide (c = 10)))
  simpa using this
theorem zlw {g:Gm} (ok:Ok g):zbf (zbl g) = .ok g:=zmj ok (nz_refl _ _) (by have:=(znu ok).1; omega)
end Go.Ab.S8
namespace Go.Ab.S8
variable {α:Type} {h:H}
theorem GmO.gm {h:H} {n:Nat} {o p m:Sl} {g:Gm} (G:GmO h n o p m g):GmR h o p m g:=by
 obtain ⟨q3, b, rows, _, B⟩:=G
 exact B.gm
theorem pone_run (k:Nat) (hk:400000≤k) (text:List UInt8) (h:H):∃ h', ∀ (α:Type) (ret:Bool->M α), qr.f (k + 8) text ret h = ret true h':=by
 obtain ⟨h1, x1, e1⟩:=shown_run (h:=h) k (by omega)
 have A2:=zea (k + 1) (by omega) text h1
 cases hp:zbf text with
 | error e=>
  obtain ⟨at', c⟩:=e
  rw [hp] at A2
  obtain ⟨i2, h2, e2, x2, hi2, hl2, hg2⟩:=A2
  obtain ⟨p1, p2, p3⟩:=parse_err hp
  have x3:Ext h2 (h2.push (gC Sl.nil Sl.nil Sl.nil)):=(Ext.refl h2).push _
  have b3:(h2.push (gC Sl.nil Sl.nil Sl.nil)).get h2.next = some (gC Sl.nil Sl.nil Sl.nil):=yc _
  have f1:=fun (α:Type) (ret:Int->Int->M α)=>zjs (k + 5) ret (h2.push (gC Sl.nil Sl.nil Sl.nil)) i2 at' c (by have:=x3.1; omega) (by rw [x3.2 _ hl2]; exact hg2)
  have b4:((h2.push (gC Sl.nil Sl.nil Sl.nil)).push (.cells [.ptr (some ⟨i2, 0⟩)] true)).get h2.next = some (gC Sl.nil Sl.nil Sl.nil):=by rw [zq, if_neg (by rw [zj]; omega)]; exact b3
  refine ⟨(h2.push (gC Sl.nil Sl.nil Sl.nil)).push (.cells [.ptr (some ⟨i2, 0⟩)] true), fun α ret=>?_⟩
  have e6:∀ (v:V) (t:Nat) (K:Bool->M α), asNil (.iface t v) K = K false:=fun _ _ _=>rfl
  rw [qr.f, qr.u1.f, e1, e2, g_new, Bool.not_true, cond_false, e6, Bool.not_false, cond_true, f1, dT p1, cond_true, dT p2, cond_true, dF p3, Bool.not_false, cond_true, g_o b4, g_p b4, g_m b4]
  rfl
 | ok g=>
  have ok:=parse_ok hp
  rw [hp] at A2
  obtain ⟨o, p, m, h2, e2, x2, G2⟩:=A2
  have x3:Ext h2 (h2.push (gC o p m)):=(Ext.refl h2).push _
  have b3:(h2.push (gC o p m)).get h2.next = some (gC o p m):=yc _
  have n3:(h2.push (gC o p m)).next = h2.next + 1:=rfl
  have c3:∀ {g:H}, Ext (h2.push (gC o p m)) g->g.get h2.next = some (gC o p m):=fun x=>by rw [x.2 _ (by omega)]; exact b3
  have G3:=G2.gm.ext x3
  have R4:=fun (α:Type) (ret:Int->Int->M α)=>zkh (k + 6) G3 (by omega) (fun l hl=>by have:=ok.short l hl; omega) ret
  have x4:Ext (h2.push (gC o p m)) ((h2.push (gC o p m)).push (gC o p m)):=(Ext.refl _).push _
  generalize (h2.push (gC o p m)).push (gC o p m) = h4 at R4 x4
  have r0:=zkp.2 ok
  obtain ⟨h5, x5, e5⟩:=zgb (k + 1) (G3.ext x4) (ok.gb.mono (by omega)) (by omega)
  rw [if_pos r0] at e5
  have A6:=zea (k + 1) (by omega) (zbl g) h5
  rw [zlw ok] at A6
  obtain ⟨o6, p6, m6, h6, e6, x6, G6⟩:=A6
  have x7:Ext h6 (h6.push (gC o6 p6 m6)):=(Ext.refl h6).push _
  have b7:(h6.push (gC o6 p6 m6)).get h6.next = some (gC o6 p6 m6):=yc _
  have n7:(h6.push (gC o6 p6 m6)).next = h6.next + 1:=rfl
  have c7:∀ {g:H}, Ext (h6.push (gC o6 p6 m6)) g->g.get h6.next = some (gC o6 p6 m6):=fun x=>by rw [x.2 _ (by omega)]; exact b7
  have x47:=((x4.trans x5).trans x6).trans x7
  obtain ⟨h8, x8, e8⟩:=same_run (k + 5) (G3.ext x47) (G6.gm.ext x7) (ok.gb.mono (by omega))
  obtain ⟨h9, x9, e9⟩:=zgb (k + 1) ((G6.gm.ext x7).ext x8) (ok.gb.mono (by omega)) (by omega)
  rw [if_pos r0] at e9
  refine ⟨h9, fun α ret=>?_⟩
  have e10:∀ (K:Bool->M α), asNil .nilIface K = K true:=fun _=>rfl
  rw [qr.f, qr.u1.f, e1, e2, g_new, Bool.not_true, cond_false, e10, Bool.not_true, cond_false, g_o' b3, g_p' b3, g_m' b3, R4, g_o' (c3 x4), g_p' (c3 x4), g_m' (c3 x4), e5, e6, g_new]
  rw [g_o' (c3 x47), g_p' (c3 x47), g_m' (c3 x47), g_o' b7, g_p' b7, g_m' b7, e8, dT r0, cond_true, e10, cond_true, dT rfl, cond_true, g_o' (c7 x8), g_p' (c7 x8), g_m' (c7 x8), e9, dT rfl]
theorem PagesOne_law (text:List UInt8) (_:text.length≤reachBytes):∃ k h', ∀ (α:Type) (ret:Bool->M α), qr.f (k + 1) text ret h0 = ret true h':=by
 obtain ⟨h', e⟩:=pone_run 400000 (Nat.le_refl _) text h0
 exact ⟨_, h', e⟩
end Go.Ab.S8
