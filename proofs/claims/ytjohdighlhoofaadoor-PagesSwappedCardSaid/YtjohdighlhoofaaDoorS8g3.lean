import Derived.Test.YtjohdighlhoofaaDoorAb20
import Derived.Test.YtjohdighlhoofaaDoorS8a
set_option linter.unusedVariables false
set_option linter.unusedSimpArgs false
namespace Go.Ab.S8
variable {α:Type} {h:H}
def ja (c:Int):Int:=
 if c = 10 then 1 else if 97≤c ∧ c≤122 then 2 else if 65≤c ∧ c≤90 then 3 else if 48≤c ∧ c≤57 then 4 else if 32 < c ∧ c < 127 ∧ c ≠ 95 then 5 else 0
theorem kind_run (k:Nat) (c:Int) (ret:Int->M α):qw.f (k + 1) c ret h = ret (ja c) h:=by
 show qw.u1.f k c ret h = _
 unfold qw.u1.f
 by_cases h1:c = 10
 ·simp [ja, h1]
 by_cases h2:97≤c ∧ c≤122
 ·simp [ja, h1, h2]
 by_cases h3:65≤c ∧ c≤90
 ·have a1:¬ 97≤c:=by omega
  simp [ja, h1, a1, h3]
 by_cases h4:48≤c ∧ c≤57
 ·have a1:¬ 97≤c:=by omega
  have a2:¬ 65≤c:=by omega
  simp [ja, h1, a1, a2, h4]
 have k0:ja c = if 32 < c ∧ c < 127 ∧ c ≠ 95 then 5 else 0:=by unfold ja; rw [if_neg h1, if_neg h2, if_neg h3, if_neg h4]
 rw [k0]
 have d1:decide (c = 10) = false:=by simpa using h1
 rw [d1]
 by_cases b1:97≤c <;> by_cases b2:c≤122 <;> by_cases b3:65≤c <;> by_cases b4:c≤90 <;> by_cases b5:48≤c <;> by_cases b6:c≤57 <;> first
  | (exfalso; omega)
  | (by_cases b7:32 < c <;> by_cases b8:c < 127 <;> by_cases b9:c = 95 <;> first | (exfalso; omega) | simp [b1, b2, b3, b4, b5, b6, b7, b8, b9])
def jj (b:UInt8):Bool:=decide (48≤(b.toNat:Int)) && decide ((b.toNat:Int)≤57)
def zaw (b:UInt8):Bool:=decide ((b.toNat:Int) = 95) || (decide (97≤(b.toNat:Int)) && decide ((b.toNat:Int)≤122)) || (decide (65≤(b.toNat:Int)) && decide ((b.toNat:Int)≤90)) || jj b
def zaq (kind:Int) (s:List UInt8):Nat:=
 if kind = 4 then 1 + ((s.drop 1).takeWhile jj).length else if kind = 2 ∨ kind = 3 then 1 + ((s.drop 1).takeWhile zaw).length else 1
theorem znm {s:List UInt8} {n:Nat} (hn:n < s.length):s.drop n = s[n] :: s.drop (n + 1):=List.drop_eq_getElem_cons hn
theorem loop1 (k:Nat) (kx:Int->M α) (s:List UInt8) (hs:s.length≤4611686018427387904):∀ (j n:Nat), n≤s.length->s.length - n < j ->
  qb.u5.l k kx j s (n:Int) h = kx ((n + ((s.drop n).takeWhile jj).length:Nat):Int) h
 | 0, n, _, hj=>by omega
 | j + 1, n, hn, hj=>by
  unfold qb.u5.l qb.u4.f
  by_cases hlt:n < s.length
  ·have d1:decide ((n:Int) < (s.length:Int)) = true:=by simpa using hlt
   rw [d1, znm hlt, List.takeWhile_cons]
   simp only [cond_true]
   have hb:s[n]? = some s[n]:=List.getElem?_eq_getElem hlt
   rw [jt rfl hb]
   simp only [jj]
   by_cases hd:48≤(s[n].toNat:Int)
   case neg=>simp [hd]
   case pos=>
    simp only [decide_eq_true hd, cond_true]
    rw [jt rfl hb]
    by_cases hd2:(s[n].toNat:Int)≤57
    case neg=>simp [hd2]
    case pos=>
     simp only [decide_eq_true hd2, cond_true, Bool.and_self, if_true]
     rw [jg (by omega) (by omega), show ((n:Int) + 1) = ((n + 1:Nat):Int) by omega, loop1 k kx s hs j (n + 1) hlt (by omega)]
     congr 1
     simp [jj]; omega
  ·have d1:decide ((n:Int) < (s.length:Int)) = false:=by simpa using hlt
   rw [d1, List.drop_of_length_le (by omega)]
   simp
theorem u8_run (k:Nat) (kn:List UInt8->Int->M α) (kx:Int->M α) (s:List UInt8) (n:Nat) (hlt:n < s.length) :
  qb.u8.f k s (n:Int) kn kx h = if zaw s[n] then kn s (w64 ((n:Int) + 1)) h else kx (n:Int) h:=by
 have rd:∀ (K:Int->M α), idxStr s (n:Int) K h = K (s[n].toNat:Int) h:=fun K=>jt rfl (List.getElem?_eq_getElem hlt)
 have d1:decide ((n:Int) < (s.length:Int)) = true:=by simpa using hlt
 unfold qb.u8.f
 simp only [zaw, jj]
 generalize kn s (w64 ((n:Int) + 1)) = A
 generalize kx (n:Int) = B
 rw [d1, cond_true, rd]
 obtain ⟨c, hc⟩:∃ c:Int, (s[n].toNat:Int) = c:=⟨_, rfl⟩
 simp only [hc] at rd ⊢
 have tail4:(idxStr s (n:Int) fun c9=>cond (decide (48≤c9)) (idxStr s (n:Int) fun c10=>cond (decide (c10≤57)) A B) B) h = if (decide (48≤c) && decide (c≤57)) = true then A h else B h:=by
  rw [rd]
  by_cases c6:48≤c
  ·simp only [c6, decide_true, cond_true, Bool.true_and]
   rw [rd]
   by_cases c7:c≤57 <;> simp [c7]
  ·simp [c6]
 have tail3:(idxStr s (n:Int) fun c7=>cond (decide (65≤c7)) (idxStr s (n:Int) fun c8=>cond (decide (c8≤90)) A (idxStr s (n:Int) fun c9=>cond (decide (48≤c9)) (idxStr s (n:Int) fun c10=>cond (decide (c10≤57)) A B) B))
   (idxStr s (n:Int) fun c9=>cond (decide (48≤c9)) (idxStr s (n:Int) fun c10=>cond (decide (c10≤57)) A B) B)) h = if (decide (65≤c) && decide (c≤90) || decide (48≤c) && decide (c≤57)) = true then A h else B h:=by
  rw [rd]
  by_cases c6:65≤c
  ·simp only [c6, decide_true, cond_true, Bool.true_and]
   rw [rd]
   by_cases c7:c≤90
   ·simp [c7]
   ·simp only [c7, decide_false, cond_false, Bool.false_or]
    exact tail4
  ·simp only [c6, decide_false, cond_false, Bool.false_and, Bool.false_or]
   exact tail4
 by_cases c1:c = 95
 ·simp [c1]
 ·simp only [c1, decide_false, cond_false, Bool.false_or]
  rw [rd]
  by_cases c2:97≤c
  ·simp only [c2, decide_true, cond_true, Bool.true_and]
   rw [rd]
   by_cases c3:c≤122
   ·simp [c3]
   ·simp only [c3, decide_false, cond_false, Bool.false_or]
    exact tail3
  ·simp only [c2, decide_false, cond_false, Bool.false_and, Bool.false_or]
   exact tail3
theorem loop2 (k:Nat) (kx:Int->M α) (s:List UInt8) (hs:s.length≤4611686018427387904):∀ (j n:Nat), n≤s.length->s.length - n < j ->
  qb.u9.l k kx j s (n:Int) h = kx ((n + ((s.drop n).takeWhile zaw).length:Nat):Int) h
 | 0, n, _, hj=>by omega
 | j + 1, n, hn, hj=>by
  unfold qb.u9.l
  by_cases hlt:n < s.length
  ·rw [u8_run k _ kx s n hlt, znm hlt, List.takeWhile_cons]
   cases hb:zaw s[n] with
   | false=>simp
   | true=>
    simp only [if_true]
    rw [jg (by omega) (by omega), show ((n:Int) + 1) = ((n + 1:Nat):Int) by omega, loop2 k kx s hs j (n + 1) hlt (by omega)]
    congr 1
    simp; omega
  ·have d1:decide ((n:Int) < (s.length:Int)) = false:=by simpa using hlt
   unfold qb.u8.f
   rw [d1, List.drop_of_length_le (by omega)]
   simp
theorem long_run (k:Nat) (c:Int) (s:List UInt8) (ret:Int->M α) (h1:1≤s.length) (hk:s.length < k) (hs:s.length≤4611686018427387904) :
  qb.f (k + 1) c s ret h = ret (zaq c s:Int) h:=by
 show qb.u20.f k c s ret h = _
 unfold qb.u20.f qb.u1.f qb.u19.f qb.u17.f qb.u2.f qb.u16.f qb.u15.f qb.u3.f qb.u18.f
 unfold zaq
 by_cases h4:c = 4
 ·rw [if_pos h4]
  subst h4
  simp only [decide_true, cond_true]
  have:=loop1 (h:=h) k ret s hs k 1 h1 (by omega)
  exact this
 ·rw [if_neg h4]
  have d4:decide (c = 4) = false:=by simpa using h4
  simp only [d4, cond_false]
  unfold qb.u13.f qb.u7.f qb.u12.f qb.u10.f qb.u9.f qb.u11.f
  by_cases h2:c = 2
  ·rw [if_pos (.inl h2)]
   subst h2
   simp only [decide_true, cond_true]
   exact loop2 (h:=h) k ret s hs k 1 h1 (by omega)
  ·have d2:decide (c = 2) = false:=by simpa using h2
   simp only [d2, cond_false]
   by_cases h3:c = 3
   ·rw [if_pos (.inr h3)]
    subst h3
    simp only [decide_true, cond_true]
    exact loop2 (h:=h) k ret s hs k 1 h1 (by omega)
   ·rw [if_neg (by rintro (h | h); exact h2 h; exact h3 h)]
    have d3:decide (c = 3) = false:=by simpa using h3
    simp only [d3, cond_false]
    rfl
def numF (s:List UInt8):Int:=s.foldl (fun n b=>10 * n + ((b.toNat:Int) - 48)) 0
theorem zep:∀ (s:List UInt8) (n:Int), (∀ b ∈ s, jj b = true)->0≤n ->
  n * 10 ^ s.length≤s.foldl (fun n b=>10 * n + ((b.toNat:Int) - 48)) n ∧ s.foldl (fun n b=>10 * n + ((b.toNat:Int) - 48)) n < (n + 1) * 10 ^ s.length
 | [], n, _, hn=>by simp; omega
 | b :: s, n, hd, hn=>by
  have hb:=hd b List.mem_cons_self
  simp only [jj, Bool.and_eq_true, decide_eq_true_eq] at hb
  obtain ⟨h1, h2⟩:=zep s (10 * n + ((b.toNat:Int) - 48)) (fun c hc=>hd c (List.mem_cons_of_mem _ hc)) (by omega)
  simp only [List.foldl_cons, List.length_cons, Int.pow_succ]
  have hp:(0:Int) < 10 ^ s.length:=Int.pow_pos (by decide)
  generalize (10:Int) ^ s.length = p at h1 h2 hp ⊢
  constructor
  ·refine Int.le_trans ?_ h1
   rw [Int.mul_comm p 10, ← Int.mul_assoc]
   exact Int.mul_le_mul_of_nonneg_right (by omega) (Int.le_of_lt hp)
  ·refine Int.lt_of_lt_of_le h2 ?_
   rw [Int.mul_comm p 10, ← Int.mul_assoc]
   exact Int.mul_le_mul_of_nonneg_right (by omega) (Int.le_of_lt hp)
def zfy (s:List UInt8):Bool:=decide (4 < s.length) || (decide (1 < s.length) && decide (s[0]? = some 48))
theorem loop3 (k:Nat) (kx:Int->M α) (s:List UInt8) (hs:s.length≤4) (hd:∀ b ∈ s, jj b = true):∀ (j n:Nat), n≤s.length->s.length - n < j ->
  qh.u5.l k kx j s (numF (s.take n)) (s.length:Int) (n:Int) h = kx (numF s) h
 | 0, n, _, hj=>by omega
 | j + 1, n, hn, hj=>by
  unfold qh.u5.l qh.u4.f
  by_cases hlt:n < s.length
  ·have d1:decide ((n:Int) < (s.length:Int)) = true:=by simpa using hlt
   rw [d1, cond_true, jt rfl (List.getElem?_eq_getElem hlt)]
   have hb:=hd s[n] (List.getElem_mem hlt)
   simp only [jj, Bool.and_eq_true, decide_eq_true_eq] at hb
   have hbd:=zep (s.take n) 0 (fun b hb=>hd b (List.mem_of_mem_take hb)) (by omega)
   have hnn:numF (s.take (n + 1)) = 10 * numF (s.take n) + ((s[n].toNat:Int) - 48):=by
    unfold numF
    rw [List.take_add_one, List.getElem?_eq_getElem hlt, List.foldl_append]
    rfl
   have hlen:(s.take n).length≤3:=by simp; omega
   have hp:(10:Int) ^ (s.take n).length≤1000:=by
    generalize (s.take n).length = q at hlen
    match q, hlen with
    | 0, _=>decide
    | 1, _=>decide
    | 2, _=>decide
    | 3, _=>decide
   have hlo:0≤numF (s.take n):=by have:=hbd.1; unfold numF; simpa using this
   have hhi:numF (s.take n) < 1000:=by have:=hbd.2; unfold numF; simp at this ⊢; omega
   have e1:IntKind.wrap .u8 ((s[n].toNat:Int) - 48) = (s[n].toNat:Int) - 48:=by
    rw [IntKind.wrap_u8']; omega
   rw [e1, jg (n:=(s[n].toNat:Int) - 48) (by omega) (by omega), jg (n:=10 * numF (s.take n)) (by omega) (by omega), jg (by omega) (by omega), jg (by omega) (by omega), ← hnn,
    show ((n:Int) + 1) = ((n + 1:Nat):Int) by omega]
   exact loop3 k kx s hs hd j (n + 1) hlt (by omega)
  ·have d1:decide ((n:Int) < (s.length:Int)) = false:=by simpa using hlt
   rw [d1, List.take_of_length_le (by omega)]
   rfl
theorem value_run (k:Nat) (s:List UInt8) (ret:Int->Bool->M α) (hd:∀ b ∈ s, jj b = true) (hk:s.length < k) :
  qh.f (k + 1) s ret h = (if zfy s then ret 0 false else ret (numF s) true) h:=by
 show qh.u11.f k s ret h = _
 unfold qh.u11.f qh.u1.f zfy
 by_cases h4:4 < s.length
 ·have:decide ((4:Int) < (s.length:Int)) = true:=by simp; omega
  simp [this, h4]
 ·have d4:decide ((4:Int) < (s.length:Int)) = false:=by simp; omega
  simp only [d4, cond_false, h4, decide_false, Bool.false_or]
  have go:qh.u10.f k s ret h = ret (numF s) true h:=by
   unfold qh.u10.f qh.u2.f qh.u9.f qh.u7.f qh.u3.f qh.u6.f qh.u5.f
   have:=loop3 (h:=h) k (fun y0=>qh.u8.f k y0 ret) s (by omega) hd k 0 (Nat.zero_le _) (by omega)
   refine Eq.trans this ?_
   unfold qh.u8.f
   have hbd:=zep s 0 hd (by omega)
   have hp:(10:Int) ^ s.length≤10000:=by
    have hlen:s.length≤4:=by omega
    generalize s.length = q at hlen
    match q, hlen with
    | 0, _=>decide
    | 1, _=>decide
    | 2, _=>decide
    | 3, _=>decide
    | 4, _=>decide
   have:decide (numF s≤9999) = true:=by have:=hbd.2; unfold numF; simp at this ⊢; omega
   rw [this]
  by_cases h1:1 < s.length
  ·have d1:decide ((1:Int) < (s.length:Int)) = true:=by simp; omega
   have hb:s[0]? = some s[0]:=List.getElem?_eq_getElem (by omega)
   simp only [d1, cond_true, h1, decide_true, Bool.true_and]
   rw [jt (i:=0) (n:=0) rfl hb]
   by_cases h0:s[0] = 48
   ·have e0:decide ((s[0].toNat:Int) = 48) = true:=by rw [h0]; rfl
    simp [e0, hb, h0]
   ·have e0:decide ((s[0].toNat:Int) = 48) = false:=by
     simp only [decide_eq_false_iff_not]
     intro hc
     apply h0
     apply UInt8.toNat_inj.1
     have:(48:UInt8).toNat = 48:=rfl
     omega
    simp only [e0, cond_false, hb, Option.some.injEq, h0, decide_false, Bool.false_eq_true, if_false]
    exact go
  ·have d1:decide ((1:Int) < (s.length:Int)) = false:=by simp; omega
   simp only [d1, cond_false, h1, decide_false, Bool.false_and, Bool.false_eq_true, if_false]
   exact go
structure Tok where
 kind:Int
 pos:Int
 text:List UInt8
 num:Int
 deriving DecidableEq
def Tok.cells (t:Tok):List V:=[.int .i64 t.kind, .int .i64 t.pos, .str t.text, .int .i64 t.num]
def zx (text:List UInt8) (n:Nat) (c:UInt8):List UInt8:=(text.drop n).take (zaq (ja c.toNat) (text.drop n))
def tokF (text:List UInt8) (n:Nat) (c:UInt8):Tok × Int:=
 if ja c.toNat = 0 then (⟨0, n, zx text n c, 0⟩, 3)
 else if ja c.toNat = 2 ∨ ja c.toNat = 3 then (⟨ja c.toNat, n, zx text n c, 0⟩, if 8 < (zx text n c).length then 5 else 0)
 else if ja c.toNat = 4 then (if zfy (zx text n c) then (⟨4, n, zx text n c, 0⟩, 4) else (⟨4, n, zx text n c, numF (zx text n c)⟩, 0))
 else (⟨ja c.toNat, n, zx text n c, 0⟩, 0)
theorem zil (p:UInt8->Bool):∀ r:List UInt8, r.take (r.takeWhile p).length = r.takeWhile p
 | []=>rfl
 | b :: r=>by
  rw [List.takeWhile_cons]
  cases hp:p b
  ·rfl
  ·simp [zil p r]
theorem zkj (c:Int) (s:List UInt8):1≤zaq c s:=by unfold zaq; split <;> (try split) <;> omega
theorem zjf (c:Int) (s:List UInt8) (hs:1≤s.length):zaq c s≤s.length:=by
 have h1:∀ p:UInt8->Bool, ((s.drop 1).takeWhile p).length≤s.length - 1:=fun p=>by
  have h2:=(List.takeWhile_prefix p (l:=s.drop 1)).length_le
  have h3:(s.drop 1).length = s.length - 1:=List.length_drop
  omega
 unfold zaq
 split
 ·have:=h1 jj; omega
 ·split
  ·have:=h1 zaw; omega
  ·omega
theorem zjz {text:List UInt8} {n:Nat} {c:UInt8} (hc:text[n]? = some c):text.drop n = c :: text.drop (n + 1):=by
 have hlt:n < text.length:=by
  rcases Nat.lt_or_ge n text.length with h | h
  ·exact h
  ·rw [List.getElem?_eq_none h] at hc; cases hc
 rw [List.drop_eq_getElem_cons hlt]
 rw [List.getElem?_eq_getElem hlt] at hc
 cases hc; rfl
theorem kind4 {c:UInt8} (h:ja c.toNat = 4):jj c = true:=by
 unfold ja at h
 split at h
 ·cases h
 ·split at h
  ·cases h
  ·split at h
   ·cases h
   ·split at h
    ·rename_i hd; simp [jj, hd]
    ·split at h <;> cases h
theorem zni {text:List UInt8} {n:Nat} {c:UInt8} (hc:text[n]? = some c) (h4:ja c.toNat = 4):zx text n c = c :: (text.drop (n + 1)).takeWhile jj:=by
 unfold zx
 rw [h4, zjz hc]
 unfold zaq
 rw [if_pos rfl, List.drop_one, List.tail_cons, Nat.add_comm, List.take_succ_cons, zil]
theorem zel (p:UInt8->Bool):∀ (r:List UInt8), ∀ b ∈ r.takeWhile p, p b = true
 | [], b, hb=>by cases hb
 | a :: r, b, hb=>by
  rw [List.takeWhile_cons] at hb
  cases hp:p a with
  | false=>rw [hp] at hb; cases hb
  | true=>
   rw [hp] at hb
   cases hb with
   | head=>exact hp
   | tail _ hb=>exact zel p r b hb
theorem token_run (k:Nat) (text:List UInt8) (n:Nat) (c:UInt8) (hc:text[n]? = some c) (ret:Int->Int->List UInt8->Int->Int->M α) (hk:text.length + 3≤k) (hs:text.length≤4611686018427387903) :
  qx.f (k + 1) text (n:Int) ret h = ret (tokF text n c).1.kind (tokF text n c).1.pos (tokF text n c).1.text (tokF text n c).1.num (tokF text n c).2
   ((h.push (.cells (tokF text n c).1.cells true)).push (.cells (tokF text n c).1.cells true)):=by
 have hlt:n < text.length:=by
  rcases Nat.lt_or_ge n text.length with h | h
  ·exact h
  ·rw [List.getElem?_eq_none h] at hc; cases hc
 obtain ⟨k, rfl⟩:∃ q, k = q + 1:=⟨k - 1, by omega⟩
 have hlen:(text.drop n).length = text.length - n:=List.length_drop
 have hl1:=zkj (ja c.toNat) (text.drop n)
 have hl2:=zjf (ja c.toNat) (text.drop n) (by omega)
 simp only [qx.f]
 unfold qx.u1.f
 rw [jc rfl, jt rfl hc, kind_run, jc rfl]
 simp only [jn, Nat.zero_add, Nat.add_zero]
 rw [yd rfl (by simp), yd rfl (by simp), yd rfl (by simp), yd rfl (by simp)]
 simp only [List.set_cons_zero, List.set_cons_succ]
 rw [jq (n:=ja c.toNat) (by rw [jy]; rfl), zha rfl (by omega), long_run k _ _ _ (by omega) (by omega) (by omega)]
 rw [jg (by omega) (by omega), zci (n:=n) (m:=n + zaq (ja c.toNat) (text.drop n)) rfl (by omega) (by omega) (by omega)]
 rw [yd rfl (by simp)]
 simp only [List.set_cons_zero, List.set_cons_succ]
 rw [jq (n:=ja c.toNat) (by rw [jy]; rfl)]
 have hw:(text.take (n + zaq (ja c.toNat) (text.drop n))).drop n = zx text n c:=by
  unfold zx
  rw [List.drop_take]
  congr 1
  omega
 rw [hw]
 -- what comes last, in every case
 have fin:∀ (kd num:Int) (w:List UInt8) (e:Int), (ldI .i64 ⟨(h.push (.cells [.int .i64 0, .int .i64 0, .str [], .int .i64 0] true)).next, 0⟩ fun x29=>ldI .i64 ⟨(h.push (.cells [.int .i64 0, .int .i64 0, .str [], .int .i64 0] true)).next, 1⟩ fun x30=>
   ldStr ⟨(h.push (.cells [.int .i64 0, .int .i64 0, .str [], .int .i64 0] true)).next, 2⟩ fun x31=>ldI .i64 ⟨(h.push (.cells [.int .i64 0, .int .i64 0, .str [], .int .i64 0] true)).next, 3⟩ fun x32=>
   st1 ⟨h.next, 0⟩ (.int .i64 x29) <| st1 ⟨h.next, 1⟩ (.int .i64 x30) <| st1 ⟨h.next, 2⟩ (.str x31) <| st1 ⟨h.next, 3⟩ (.int .i64 x32) <|
   ldI .i64 ⟨h.next, 0⟩ fun o501=>ldI .i64 ⟨h.next, 1⟩ fun o502=>ldStr ⟨h.next, 2⟩ fun o503=>ldI .i64 ⟨h.next, 3⟩ fun o504=>ret o501 o502 o503 o504 e)
    ((h.push (.cells [.int .i64 0, .int .i64 0, .str [], .int .i64 0] true)).push (.cells [.int .i64 kd, .int .i64 n, .str w, .int .i64 num] true)) =
   ret kd n w num e ((h.push (.cells [.int .i64 kd, .int .i64 n, .str w, .int .i64 num] true)).push (.cells [.int .i64 kd, .int .i64 n, .str w, .int .i64 num] true)):=by
  intro kd num w e
  rw [jq (n:=kd) (by rw [jy]; rfl), jq (n:=(n:Int)) (by rw [jy]; rfl), zad (n:=w) (by rw [jy]; rfl), jq (n:=num) (by rw [jy]; rfl)]
  rw [zfl rfl (by simp), zfl rfl (by simp), zfl rfl (by simp), zfl rfl (by simp)]
  simp only [List.set_cons_zero, List.set_cons_succ]
  rw [jq (n:=kd) (by rw [zdz]; rfl), jq (n:=(n:Int)) (by rw [zdz]; rfl), zad (n:=w) (by rw [zdz]; rfl), jq (n:=num) (by rw [zdz]; rfl)]
 unfold tokF
 by_cases h0:ja c.toNat = 0
 ·have d0:decide (ja c.toNat = 0) = true:=by simpa using h0
  rw [if_pos h0, d0, cond_true, h0]
  exact fin _ _ _ _
 have d0:decide (ja c.toNat = 0) = false:=by simpa using h0
 rw [if_neg h0, d0, cond_false]
 by_cases h2:ja c.toNat = 2
 ·have d2:decide (ja c.toNat = 2) = true:=by simpa using h2
  rw [if_pos (.inl h2)]
  simp only [d2, cond_true]
  rw [zad (n:=zx text n c) (by rw [jy]; rfl)]
  by_cases h8:8 < (zx text n c).length
  ·have d8:decide (8 < ((zx text n c).length:Int)) = true:=by simp; omega
   rw [d8, cond_true, if_pos h8]
   exact fin _ _ _ _
  ·have d8:decide (8 < ((zx text n c).length:Int)) = false:=by simp; omega
   rw [d8, cond_false, if_neg h8]
   exact fin _ _ _ _
 have d2:decide (ja c.toNat = 2) = false:=by simpa using h2
 simp only [d2, cond_false]
 by_cases h3:ja c.toNat = 3
 ·have d3:decide (ja c.toNat = 3) = true:=by simpa using h3
  rw [if_pos (.inr h3)]
  simp only [d3, cond_true]
  rw [zad (n:=zx text n c) (by rw [jy]; rfl)]
  by_cases h8:8 < (zx text n c).length
  ·have d8:decide (8 < ((zx text n c).length:Int)) = true:=by simp; omega
   rw [d8, cond_true, if_pos h8]
   exact fin _ _ _ _
  ·have d8:decide (8 < ((zx text n c).length:Int)) = false:=by simp; omega
   rw [d8, cond_false, if_neg h8]
   exact fin _ _ _ _
 have d3:decide (ja c.toNat = 3) = false:=by simpa using h3
 rw [if_neg (by rintro (h | h); exact h2 h; exact h3 h)]
 simp only [d3, cond_false]
 by_cases h4:ja c.toNat = 4
 ·have d4:decide (ja c.toNat = 4) = true:=by simpa using h4
  rw [if_pos h4]
  simp only [d4, cond_true]
  have hdig:∀ b ∈ zx text n c, jj b = true:=by
   rw [zni hc h4]
   intro b hb
   cases hb with
   | head=>exact kind4 h4
   | tail _ hb=>exact zel _ _ b hb
  have hwl:(zx text n c).length≤text.length:=by
   unfold zx
   rw [List.length_take, hlen]; omega
  rw [zad (n:=zx text n c) (by rw [jy]; rfl), value_run k _ _ hdig (by omega)]
  cases hb:zfy (zx text n c) with
  | true=>
   simp only [if_true, Bool.not_false, cond_true, h4]
   exact fin _ _ _ _
  | false=>
   simp only [Bool.false_eq_true, if_false, Bool.not_true, cond_false, h4]
   rw [yd rfl (by simp)]
   simp only [List.set_cons_zero, List.set_cons_succ]
   exact fin _ _ _ _
 ·have d4:decide (ja c.toNat = 4) = false:=by simpa using h4
  rw [if_neg h4]
  simp only [d4, cond_false]
  exact fin _ _ _ _
def remF (s:List UInt8):Nat:=(s.takeWhile fun b=>b != 10).length
theorem zoh (s:List UInt8):zer s 10 = if (10:UInt8) ∈ s then (remF s:Int) else -1:=by
 induction s with
 | nil=>rfl
 | cons b s ih=>
  unfold zer remF
  rw [List.takeWhile_cons]
  by_cases hb:b = 10
  ·subst hb; simp
  ·have h1:(b == 10) = false:=by simpa using hb
   have h2:(b != 10) = true:=by simpa using hb
   rw [h1, h2, ih]
   have h3:(10:UInt8) ∈ b :: s ↔ 10 ∈ s:=by simp [Ne.symm hb]
   by_cases hm:(10:UInt8) ∈ s
   ·rw [if_pos hm, if_pos (h3.2 hm)]
    have:(((remF s:Nat):Int) == -1) = false:=by rw [beq_eq_false_iff_ne]; omega
    rw [this]
    simp only [Bool.false_eq_true, if_false, if_true, List.length_cons]
    unfold remF
    push_cast
    rfl
   ·rw [if_neg hm, if_neg (fun h=>hm (h3.1 h))]
    simp
theorem rem_none {s:List UInt8} (h:¬ (10:UInt8) ∈ s):remF s = s.length:=by
 unfold remF
 induction s with
 | nil=>rfl
 | cons b s ih=>
  have hb:b ≠ 10:=fun e=>h (e ▸ List.mem_cons_self)
  rw [List.takeWhile_cons, show (b != 10) = true by simpa using hb]
  simp [ih fun hm=>h (List.mem_cons_of_mem _ hm)]
theorem index_run (k:Nat) (s:List UInt8) (ret:Int->M α):qz.f (k + 3) s 10 ret h = ret (if (10:UInt8) ∈ s then (remF s:Int) else -1) h:=by
 rw [← zoh]
 rfl
def allF (text:List UInt8):Nat->Nat->Except (Nat × Int) (List Tok)
 | 0, _=>.ok []
 | f + 1, n=>match text[n]? with
  | none=>.ok []
  | some c=>if (c.toNat:Int) = 32 ∨ (c.toNat:Int) = 9 then allF text f (n + 1) else if (c.toNat:Int) = 35 then allF text f (n + remF (text.drop n)) else
   if (tokF text n c).2 = 0 then (allF text f (n + (tokF text n c).1.text.length)).map ((tokF text n c).1 :: ·) else .error (n, (tokF text n c).2)
def zag (l:List Tok):List V:=l.flatMap Tok.cells
theorem zej (l:List Tok):(zag l).length = l.length * 4:=by
 induction l with
 | nil=>rfl
 | cons t l ih=>
  have h1:t.cells.length = 4:=rfl
  simp only [zag, List.flatMap_cons, List.length_append, List.length_cons] at ih ⊢
  omega
theorem zgp (text:List UInt8) (n:Nat) (c:UInt8):(tokF text n c).1.text = zx text n c:=by
 unfold tokF
 repeat' split
 all_goals rfl
theorem zmf (text:List UInt8) (n:Nat) (c:UInt8):(tokF text n c).1.pos = n:=by
 unfold tokF
 repeat' split
 all_goals rfl
theorem zbs {text:List UInt8} {n:Nat} {c:UInt8} (hn:n < text.length):1≤(zx text n c).length ∧ n + (zx text n c).length≤text.length:=by
 have h1:=zkj (ja c.toNat) (text.drop n)
 have h2:(text.drop n).length = text.length - n:=List.length_drop
 unfold zx
 rw [List.length_take]
 omega
theorem zly {text:List UInt8} {n:Nat} {c:UInt8} (hc:text[n]? = some c) (h35:(c.toNat:Int) = 35):1≤remF (text.drop n) ∧ n + remF (text.drop n)≤text.length:=by
 have hl:(remF (text.drop n))≤(text.drop n).length:=by unfold remF; exact (List.takeWhile_prefix _).length_le
 have h2:(text.drop n).length = text.length - n:=List.length_drop
 have hlt:n < text.length:=by
  rcases Nat.lt_or_ge n text.length with h | h
  ·exact h
  ·rw [List.getElem?_eq_none h] at hc; cases hc
 refine ⟨?_, by omega⟩
 unfold remF
 rw [zjz hc, List.takeWhile_cons]
 have:(c != 10) = true:=by
  simp only [bne_iff_ne, ne_eq]
  rintro rfl
  simp at h35
 rw [this]
 simp
theorem all_loop (k:Nat) (text:List UInt8) (hlen:text.length≤262144) (hk:text.length + 5≤k) (h₀:H) :
  ∀ (j n:Nat) (acc:List Tok) (sl:Sl) (h:H), n≤text.length->text.length - n < j->Ext h₀ h->Row h sl 4 (zag acc)->zen h₀ sl->acc.length≤n ->
   match allF text j n with
   | .ok ts=>∃ sl' h', (∀ (α:Type) (kr:Sl->Ad->M α) (kx:List UInt8->Sl->M α), qi.u4.l k kr kx j text sl (n:Int) h = kx text sl' h') ∧ Ext h₀ h' ∧ Row h' sl' 4 (zag (acc ++ ts)) ∧ zen h₀ sl' ∧ acc.length + ts.length≤text.length
   | .error (m, e)=>∃ p h', (∀ (α:Type) (kr:Sl->Ad->M α) (kx:List UInt8->Sl->M α), qi.u4.l k kr kx j text sl (n:Int) h = kr Sl.nil ⟨p, 0⟩ h') ∧ Ext h₀ h' ∧ h₀.next≤p ∧ p < h'.next ∧ h'.get p = some (.cells [.int .i64 (m:Int), .int .i64 e] true):=by
 intro j
 induction j with
 | zero=>intro n acc sl h hn hj; omega
 | succ j ih=>
  intro n acc sl h hn hj hx hr ho ha
  obtain ⟨k', rfl⟩:∃ q, k = q + 1:=⟨k - 1, by omega⟩
  simp only [allF]
  cases hc:text[n]? with
  | none=>
   have hge:text.length≤n:=by
    rcases Nat.lt_or_ge n text.length with h | h
    ·rw [List.getElem?_eq_getElem h] at hc; cases hc
    ·exact h
   have d0:decide ((n:Int) < (text.length:Int)) = false:=by simpa using hge
   refine ⟨sl, h, fun α kr kx=>?_, hx, by simpa using hr, ho, by simpa using by omega⟩
   unfold qi.u4.l qi.u3.f
   rw [d0, cond_false]
  | some c=>
   have hlt:n < text.length:=by
    rcases Nat.lt_or_ge n text.length with h | h
    ·exact h
    ·rw [List.getElem?_eq_none h] at hc; cases hc
   have d0:decide ((n:Int) < (text.length:Int)) = true:=by simpa using hlt
   -- one round on
   have on:∀ (m:Nat) (acc':List Tok) (sl':Sl) (h':H), (∀ (α:Type) (kr:Sl->Ad->M α) (kx:List UInt8->Sl->M α), qi.u4.l (k' + 1) kr kx (j + 1) text sl (n:Int) h = qi.u4.l (k' + 1) kr kx j text sl' (m:Int) h') ->
     (match allF text j m with
     | .ok ts=>∃ sl'' h'', (∀ (α:Type) (kr:Sl->Ad->M α) (kx:List UInt8->Sl->M α), qi.u4.l (k' + 1) kr kx j text sl' (m:Int) h' = kx text sl'' h'') ∧ Ext h₀ h'' ∧ Row h'' sl'' 4 (zag (acc' ++ ts)) ∧ zen h₀ sl'' ∧ acc'.length + ts.length≤text.length
     | .error (q, e)=>∃ p h'', (∀ (α:Type) (kr:Sl->Ad->M α) (kx:List UInt8->Sl->M α), qi.u4.l (k' + 1) kr kx j text sl' (m:Int) h' = kr Sl.nil ⟨p, 0⟩ h'') ∧ Ext h₀ h'' ∧ h₀.next≤p ∧ p < h''.next ∧ h''.get p = some (.cells [.int .i64 (q:Int), .int .i64 e] true)) ->
     (match allF text j m with
     | .ok ts=>∃ sl'' h'', (∀ (α:Type) (kr:Sl->Ad->M α) (kx:List UInt8->Sl->M α), qi.u4.l (k' + 1) kr kx (j + 1) text sl (n:Int) h = kx text sl'' h'') ∧ Ext h₀ h'' ∧ Row h'' sl'' 4 (zag (acc' ++ ts)) ∧ zen h₀ sl'' ∧ acc'.length + ts.length≤text.length
     | .error (q, e)=>∃ p h'', (∀ (α:Type) (kr:Sl->Ad->M α) (kx:List UInt8->Sl->M α), qi.u4.l (k' + 1) kr kx (j + 1) text sl (n:Int) h = kr Sl.nil ⟨p, 0⟩ h'') ∧ Ext h₀ h'' ∧ h₀.next≤p ∧ p < h''.next ∧ h''.get p = some (.cells [.int .i64 (q:Int), .int .i64 e] true)):=by
    intro m acc' sl' h' hstep hfin
    cases hall:allF text j m with
    | ok ts=>
     rw [hall] at hfin
     obtain ⟨sl'', h'', f1, f2⟩:=hfin
     exact ⟨sl'', h'', fun α kr kx=>(hstep α kr kx).trans (f1 α kr kx), f2⟩
    | error qe=>
     rw [hall] at hfin
     obtain ⟨q, e⟩:=qe
     obtain ⟨p, h'', f1, f2⟩:=hfin
     exact ⟨p, h'', fun α kr kx=>(hstep α kr kx).trans (f1 α kr kx), f2⟩
   have b32:∀ v:Int, (decide ((c.toNat:Int) = v) = true ↔ (c.toNat:Int) = v):=fun v=>by simp
   dsimp only
   by_cases h329:(c.toNat:Int) = 32 ∨ (c.toNat:Int) = 9
   ·rw [if_pos h329]
    refine on (n + 1) acc sl h (fun α kr kx=>?_) (ih (n + 1) acc sl h hlt (by omega) hx hr ho (by omega))
    rw [qi.u4.l, qi.u3.f]
    rw [d0, cond_true, jt rfl hc, jg (n:=(n:Int) + 1) (by omega) (by omega)]
    by_cases h32:(c.toNat:Int) = 32
    ·rw [(b32 _).2 h32, cond_true]; rfl
    ·rw [show decide ((c.toNat:Int) = 32) = false by simpa using h32, cond_false, (b32 _).2 (h329.resolve_left h32), cond_true]; rfl
   have h32:decide ((c.toNat:Int) = 32) = false:=by simp; exact fun h=>h329 (.inl h)
   have h9:decide ((c.toNat:Int) = 9) = false:=by simp; exact fun h=>h329 (.inr h)
   rw [if_neg h329]
   by_cases h35:(c.toNat:Int) = 35
   ·rw [if_pos h35]
    obtain ⟨r1, r2⟩:=zly hc h35
    obtain ⟨k3, rfl⟩:∃ q, k' = q + 2:=⟨k' - 2, by omega⟩
    refine on (n + remF (text.drop n)) acc sl h (fun α kr kx=>?_) (ih (n + remF (text.drop n)) acc sl h r2 (by omega) hx hr ho (by omega))
    rw [qi.u4.l, qi.u3.f]
    rw [d0, cond_true, jt rfl hc, h32, cond_false, h9, cond_false, (b32 _).2 h35, cond_true]
    rw [zha rfl (by omega), index_run k3]
    by_cases hm:(10:UInt8) ∈ text.drop n
    ·rw [if_pos hm, show decide ((remF (text.drop n):Int) < 0) = false by simp, cond_false, jg (by omega) (by omega)]
     rfl
    ·rw [if_neg hm, show decide ((-1:Int) < 0) = true by decide, cond_true, jg (n:=(text.length:Int) - n) (by omega) (by omega), jg (by omega) (by omega)]
     have hrl:=rem_none hm
     have h2:(text.drop n).length = text.length - n:=List.length_drop
     rw [show (n:Int) + ((text.length:Int) - n) = ((n + remF (text.drop n):Nat):Int) by omega]
   ·rw [if_neg h35]
    have d35:decide ((c.toNat:Int) = 35) = false:=by simpa using h35
    have tr:=fun (α:Type) (ret:Int->Int->List UInt8->Int->Int->M α)=>token_run (h:=h) k' text n c hc ret (by omega) (by omega)
    have htext:=zgp text n c
    have hpos:=zmf text n c
    obtain ⟨w1, w2⟩:=zbs (c:=c) hlt
    rw [← htext] at w1 w2
    generalize tokF text n c = te at *
    obtain ⟨t, e⟩:=te
    dsimp only at *
    have e1:Ext h ((h.push (.cells t.cells true)).push (.cells t.cells true)):=((Ext.refl h).push _).push _
    generalize ((h.push (.cells t.cells true)).push (.cells t.cells true)) = h1 at *
    -- as far as the token's own copy
    have start:∀ (α:Type) (kr:Sl->Ad->M α) (kx:List UInt8->Sl->M α), qi.u4.l (k' + 1) kr kx (j + 1) text sl (n:Int) h =
      (cond (!(decide (e = 0))) (new [.int .i64 (n:Int), .int .i64 e] fun x14=>kr Sl.nil x14) (
       ldI .i64 ⟨h1.next, 0⟩ fun x15=>ldI .i64 ⟨h1.next, 1⟩ fun x16=>ldStr ⟨h1.next, 2⟩ fun x17=>ldI .i64 ⟨h1.next, 3⟩ fun x18=>
       new [.int .i64 x15, .int .i64 x16, .str x17, .int .i64 x18] fun r19=>jk sl 4 40 (⟨some r19, 1, 1, none⟩:Sl) fun x20=>ldStr ⟨h1.next, 2⟩ fun x21=>
       qi.u4.l (k' + 1) kr kx j text x20 (w64 ((n:Int) + (x21.length:Int))))) (h1.push (.cells t.cells true)):=by
     intro α kr kx
     rw [qi.u4.l, qi.u3.f]
     rw [d0, cond_true, jt rfl hc, h32, cond_false, h9, cond_false, d35, cond_false, tr, jc rfl]
     simp only [jn, Nat.zero_add, Nat.add_zero]
     rw [yd rfl (by simp), yd rfl (by simp), yd rfl (by simp), yd rfl (by simp)]
     simp only [List.set_cons_zero, List.set_cons_succ]
     rfl
    by_cases he:e = 0
    ·rw [if_pos he]
     have hx1:Ext h ((h1.push (.cells t.cells true)).push (.cells t.cells true)):=(e1.push _).push _
     have hr1:=hr.ext hx1
     have hlen4:=hr.len
     rw [zej] at hlen4
     obtain ⟨h2, a1, a2, a3, a4⟩:=zjl (bytes:=40)
      (x:=⟨some ⟨(h1.push (.cells t.cells true)).next, 0⟩, 1, 1, none⟩) (more:=t.cells) hr1 rfl
      (by rw [zau (cs:=t.cells) (o:=true) (by rw [zt]; exact if_pos rfl) (by show 0 + 1 * 4≤4; omega)]; rfl) (Nat.succ_pos _) (by decide)
      (by show (sl.len + 1 + (sl.len + 1) / 4 + 512) * 40≤_; omega)
     have hcell:h2.cell ⟨h1.next, 2⟩ = some (.str t.text):=by
      rw [jp (cs:=t.cells) (o:=true)]
      ·rfl
      ·rw [a4 h1.next (by rw [zk, zk]; omega)]
       ·rw [zt, if_neg (by rw [zk]; omega), zt, if_pos rfl]
       ·intro a hsa
        rcases hr with ⟨rfl, _⟩ | ⟨id, q1, q2, q3, q4⟩
        ·cases hsa
        ·rw [q1] at hsa
         cases hsa
         have:=e1.1
         show h1.next ≠ id
         omega
     have hx2:Ext h₀ h2:=(hx.trans hx1).app ho a3 a4
     have hfin:=ih (n + t.text.length) (acc ++ [t]) _ h2 w2 (by omega) hx2 (by rw [show zag (acc ++ [t]) = zag acc ++ t.cells by simp [zag]]; exact a2)
      (fun a ha=>by cases ha; have:=hx.1; have:=e1.1; simp only [zk]; omega) (by simp; omega)
     have hstep:∀ (α:Type) (kr:Sl->Ad->M α) (kx:List UInt8->Sl->M α), qi.u4.l (k' + 1) kr kx (j + 1) text sl (n:Int) h = qi.u4.l (k' + 1) kr kx j text ⟨some ⟨((h1.push (.cells t.cells true)).push (.cells t.cells true)).next, 0⟩, sl.len + 1, sl.len + 1, some 4⟩ ((n + t.text.length:Nat):Int) h2:=by
      intro α kr kx
      rw [start, show (!(decide (e = 0))) = false by simpa using he, cond_false]
      rw [jq (n:=t.kind) (by rw [jy]; rfl), jq (n:=t.pos) (by rw [jy]; rfl), zad (n:=t.text) (by rw [jy]; rfl), jq (n:=t.num) (by rw [jy]; rfl), jc rfl]
      refine (a1 α _).trans ?_
      rw [zad hcell, jg (by omega) (by omega)]
      rfl
     have hh:=on (n + t.text.length) (acc ++ [t]) _ h2 hstep hfin
     cases hall:allF text j (n + t.text.length) with
     | ok ts=>
      rw [hall] at hh
      obtain ⟨sl', h', f1, f2, f3, f4, f5⟩:=hh
      exact ⟨sl', h', f1, f2, by simpa using f3, f4, by simp at f5 ⊢; omega⟩
     | error me=>
      rw [hall] at hh
      exact hh
    ·rw [if_neg he]
     refine ⟨(h1.push (.cells t.cells true)).next, _, fun α kr kx=>?_, ((hx.trans e1).push (.cells t.cells true)).push (.cells [.int .i64 (n:Int), .int .i64 e] true), ?_, ?_, ?_⟩
     ·rw [start, show (!(decide (e = 0))) = true by simpa using he, cond_true, jc rfl]
     ·have:=hx.1; have:=e1.1; simp only [zk]; omega
     ·simp only [zk]; omega
     ·rw [zt, if_pos rfl]
def zcu (text:List UInt8):Except (Nat × Int) (List Tok):=
 if 262144 < text.length then .error (262144, 2) else (allF text (text.length + 1) 0).map (· ++ [⟨0, text.length, [], 0⟩])
theorem zkv (text:List UInt8):∀ (f g n:Nat), n≤text.length->text.length - n < f->text.length - n < g->allF text f n = allF text g n:=by
 intro f
 induction f with
 | zero=>intro g n hn h; omega
 | succ f ih=>
  intro g n hn hf hg
  cases g with
  | zero=>omega
  | succ g=>
   simp only [allF]
   cases hc:text[n]? with
   | none=>rfl
   | some c=>
    have hlt:n < text.length:=by
     rcases Nat.lt_or_ge n text.length with h | h
     ·exact h
     ·rw [List.getElem?_eq_none h] at hc; cases hc
    dsimp only
    split
    ·exact ih g _ hlt (by omega) (by omega)
    ·split
     ·rename_i h35
      obtain ⟨r1, r2⟩:=zly hc h35
      exact ih g _ r2 (by omega) (by omega)
     ·obtain ⟨w1, w2⟩:=zbs (c:=c) hlt
      rw [zgp]
      rw [ih g _ w2 (by omega) (by omega)]
theorem All_run (k:Nat) (text:List UInt8) (hk:min text.length 262144 + 6≤k) (h:H) :
  match zcu text with
  | .ok ts=>∃ sl h', (∀ (α:Type) (ret:Sl->V->M α), qi.f (k + 1) text ret h = ret sl .nilIface h') ∧ Ext h h' ∧ Row h' sl 4 (zag ts) ∧ zen h sl ∧ ts.length≤text.length + 1 ∧ text.length≤262144
  | .error (m, e)=>∃ p h', (∀ (α:Type) (ret:Sl->V->M α), qi.f (k + 1) text ret h = ret Sl.nil (.iface 56 (.ptr (some ⟨p, 0⟩))) h') ∧ Ext h h' ∧ h.next≤p ∧ p < h'.next ∧ h'.get p = some (.cells [.int .i64 (m:Int), .int .i64 e] true):=by
 unfold zcu
 by_cases hl:262144 < text.length
 ·rw [if_pos hl]
  refine ⟨h.next, h.push (.cells [.int .i64 262144, .int .i64 2] true), fun α ret=>?_, (Ext.refl h).push _, Nat.le_refl _, by rw [zk]; omega, by rw [zt, if_pos rfl]; rfl⟩
  simp only [qi.f]
  unfold qi.u9.f qi.u1.f
  rw [show decide (262144 < (text.length:Int)) = true by simp; omega, cond_true, jc rfl]
 ·rw [if_neg hl]
  have d0:decide (262144 < (text.length:Int)) = false:=by simp; omega
  have start:∀ (α:Type) (ret:Sl->V->M α), qi.f (k + 1) text ret h = qi.u4.l k (fun y0 y1=>ret y0 (.iface 56 (.ptr (some y1)))) (fun y0 y1=>qi.u7.f k y0 y1 fun y0=>ret y0 .nilIface) k text Sl.nil 0 h:=by
   intro α ret
   simp only [qi.f]
   unfold qi.u9.f qi.u1.f
   rw [d0, cond_false]
   rfl
  have hal:=all_loop k text (by omega) (by omega) h k 0 [] Sl.nil h (Nat.zero_le _) (by omega) (Ext.refl h) (Row.nil h 4) (zen.nil h) (Nat.le_refl _)
  rw [zkv text k (text.length + 1) 0 (Nat.zero_le _) (by omega) (by omega)] at hal
  cases hall:allF text (text.length + 1) 0 with
  | error me=>
   rw [hall] at hal
   obtain ⟨m, e⟩:=me
   obtain ⟨p, h', f1, f2⟩:=hal
   exact ⟨p, h', fun α ret=>(start α ret).trans (f1 α _ _), f2⟩
  | ok ts=>
   rw [hall] at hal
   obtain ⟨sl, h1, f1, f2, f3, f4, f5⟩:=hal
   simp only [List.nil_append, List.length_nil, Nat.zero_add] at f3 f5
   have hlen:=f3.len
   rw [zej] at hlen
   have hend:zag (ts ++ [⟨0, text.length, [], 0⟩]) = zag ts ++ [.int .i64 0, .int .i64 text.length, .str [], .int .i64 0]:=by simp [zag, Tok.cells]
   obtain ⟨h2, a1, a2, a3, a4⟩:=zjl (bytes:=40) (h:=h1.push (.cells [.int .i64 0, .int .i64 text.length, .str [], .int .i64 0] true))
    (x:=⟨some ⟨h1.next, 0⟩, 1, 1, none⟩) (more:=[.int .i64 0, .int .i64 text.length, .str [], .int .i64 0]) (f3.ext ((Ext.refl h1).push _)) rfl
    (by rw [zau (cs:=[.int .i64 0, .int .i64 text.length, .str [], .int .i64 0]) (o:=true) (by rw [zt]; exact if_pos rfl) (by show 0 + 1 * 4≤4; omega)]; rfl) (Nat.succ_pos _) (by decide)
    (by show (sl.len + 1 + (sl.len + 1) / 4 + 512) * 40≤_; omega)
   refine ⟨_, h2, fun α ret=>?_, (f2.push _).app f4 a3 a4, by rw [hend]; exact a2, fun a ha=>?_, by simp; omega, by omega⟩
   ·refine (start α ret).trans ((f1 α _ _).trans ?_)
    unfold qi.u7.f
    rw [jc rfl]
    exact a1 α _
   ·cases ha
    have:=f2.1
    simp only [zk]; omega
theorem zkg (K:Bool->M α):asNil .nilIface K = K true:=rfl
end Go.Ab.S8
namespace Go.Ab.S8
def yt (c:UInt8):Bool:=decide ((c.toNat:Int) = 32) || decide ((c.toNat:Int) = 9)
def zam (c:UInt8):Bool:=decide ((c.toNat:Int) = 35)
inductive Sc (text:List UInt8):Nat->List Tok->Nat->Prop
 | nil {n:Nat}:n≤text.length->Sc text n [] n
 | blank {n m:Nat} {ts:List Tok} {c:UInt8}:text[n]? = some c->yt c = true->Sc text (n + 1) ts m->Sc text n ts m
 | rem {n m:Nat} {ts:List Tok} {c:UInt8}:text[n]? = some c->yt c = false->zam c = true->Sc text (n + remF (text.drop n)) ts m->Sc text n ts m
 | tok {n m:Nat} {ts:List Tok} {c:UInt8}:text[n]? = some c->yt c = false->zam c = false->(tokF text n c).2 = 0->Sc text (n + (zx text n c).length) ts m->Sc text n ((tokF text n c).1 :: ts) m
theorem zbm {text:List UInt8} {n:Nat} {c:UInt8} (hc:text[n]? = some c):n < text.length:=by
 rcases Nat.lt_or_ge n text.length with h | h
 ·exact h
 ·rw [List.getElem?_eq_none h] at hc; cases hc
theorem zed {text:List UInt8} {f n:Nat} {c:UInt8} (hc:text[n]? = some c):allF text (f + 1) n =
  if yt c then allF text f (n + 1) else if zam c then allF text f (n + remF (text.drop n)) else
   if (tokF text n c).2 = 0 then (allF text f (n + (zx text n c).length)).map ((tokF text n c).1 :: ·) else .error (n, (tokF text n c).2):=by
 simp only [allF, hc, zgp]
 by_cases h1:(c.toNat:Int) = 32 ∨ (c.toNat:Int) = 9
 ·have:yt c = true:=by simp [yt]; exact h1
  rw [if_pos h1, if_pos this]
 ·have:yt c = false:=by
   simp only [yt, Bool.or_eq_false_iff, decide_eq_false_iff_not]
   exact ⟨fun h=>h1 (.inl h), fun h=>h1 (.inr h)⟩
  rw [if_neg h1, this]
  simp only [Bool.false_eq_true, if_false]
  by_cases h2:(c.toNat:Int) = 35
  ·have:zam c = true:=by simp [zam]; exact h2
   rw [if_pos h2, if_pos this]
  ·have:zam c = false:=by simp [zam]; exact h2
   rw [if_neg h2, this]
   simp
theorem zic {text:List UInt8} {n:Nat} {c:UInt8} (hc:text[n]? = some c) (h:zam c = true):1≤remF (text.drop n) ∧ n + remF (text.drop n)≤text.length:=
 zly hc (by simpa [zam] using h)
structure Bad (text:List UInt8) (m:Nat) (e:Int):Prop where
 bad:∃ c, text[m]? = some c ∧ yt c = false ∧ zam c = false ∧ (tokF text m c).2 = e
 ne:e ≠ 0
theorem allF_sc {text:List UInt8}:∀ (f n:Nat), n≤text.length->text.length - n < f ->
  match allF text f n with
  | .ok ts=>Sc text n ts text.length
  | .error (m, e)=>∃ ts, Sc text n ts m ∧ Bad text m e:=by
 intro f
 induction f with
 | zero=>intro n hn hf; omega
 | succ f ih=>
  intro n hn hf
  cases hc:text[n]? with
  | none=>
   have hge:n = text.length:=by
    rcases Nat.lt_or_ge n text.length with h | h
    ·rw [List.getElem?_eq_getElem h] at hc; cases hc
    ·omega
   simp only [allF, hc]
   subst hge
   exact .nil (Nat.le_refl _)
  | some c=>
   have hlt:=zbm hc
   rw [zed hc]
   cases hb:yt c with
   | true=>
    simp only [if_true]
    have:=ih (n + 1) hlt (by omega)
    cases h:allF text f (n + 1) with
    | ok ts=>rw [h] at this; exact .blank hc hb this
    | error me=>rw [h] at this; obtain ⟨ts, h1, h2⟩:=this; exact ⟨ts, .blank hc hb h1, h2⟩
   | false=>
    simp only [Bool.false_eq_true, if_false]
    cases hr:zam c with
    | true=>
     simp only [if_true]
     obtain ⟨r1, r2⟩:=zic hc hr
     have:=ih (n + remF (text.drop n)) r2 (by omega)
     cases h:allF text f (n + remF (text.drop n)) with
     | ok ts=>rw [h] at this; exact .rem hc hb hr this
     | error me=>rw [h] at this; obtain ⟨ts, h1, h2⟩:=this; exact ⟨ts, .rem hc hb hr h1, h2⟩
    | false=>
     simp only [Bool.false_eq_true, if_false]
     by_cases he:(tokF text n c).2 = 0
     ·rw [if_pos he]
      obtain ⟨w1, w2⟩:=zbs (c:=c) hlt
      have:=ih (n + (zx text n c).length) w2 (by omega)
      cases h:allF text f (n + (zx text n c).length) with
      | ok ts=>rw [h] at this; exact .tok hc hb hr he this
      | error me=>rw [h] at this; obtain ⟨ts, h1, h2⟩:=this; exact ⟨_, .tok hc hb hr he h1, h2⟩
     ·rw [if_neg he]
      exact ⟨[], .nil hn, ⟨⟨c, hc, hb, hr, rfl⟩, he⟩⟩
theorem Sc.le {text:List UInt8} {n m:Nat} {ts:List Tok} (s:Sc text n ts m):n≤m ∧ m≤text.length:=by
 induction s with
 | nil h=>exact ⟨Nat.le_refl _, h⟩
 | blank _ _ _ ih=>omega
 | rem _ _ _ _ ih=>omega
 | tok _ _ _ _ _ ih=>omega
theorem Sc.run {text:List UInt8} {n m:Nat} {ts:List Tok} (s:Sc text n ts m):∀ f g, text.length - n < f->text.length - m < g->allF text f n = (allF text g m).map (ts ++ ·):=by
 induction s with
 | nil h=>
  intro f g hf hg
  rw [zkv text f g _ h hf hg]
  cases allF text g _ <;> rfl
 | blank hc hb s ih=>
  intro f g hf hg
  obtain ⟨f, rfl⟩:∃ q, f = q + 1:=⟨f - 1, by omega⟩
  have:=zbm hc
  rw [zed hc, if_pos hb]
  exact ih f g (by omega) hg
 | rem hc hb hr s ih=>
  intro f g hf hg
  obtain ⟨f, rfl⟩:∃ q, f = q + 1:=⟨f - 1, by omega⟩
  have:=zbm hc
  obtain ⟨r1, r2⟩:=zic hc hr
  rw [zed hc, hb, hr]
  simp only [Bool.false_eq_true, if_false, if_true]
  exact ih f g (by omega) hg
 | tok hc hb hr he s ih=>
  intro f g hf hg
  obtain ⟨f, rfl⟩:∃ q, f = q + 1:=⟨f - 1, by omega⟩
  have hlt:=zbm hc
  rename_i c
  obtain ⟨w1, w2⟩:=zbs (c:=c) hlt
  rw [zed hc, hb, hr]
  simp only [Bool.false_eq_true, if_false]
  rw [if_pos he, ih f g (by omega) hg]
  cases allF text g _ <;> rfl
theorem allF_end (text:List UInt8) (g:Nat):allF text (g + 1) text.length = .ok []:=by
 have:text[text.length]? = none:=List.getElem?_eq_none (Nat.le_refl _)
 simp only [allF, this]
theorem Sc.ok {text:List UInt8} {ts:List Tok} (s:Sc text 0 ts text.length):allF text (text.length + 1) 0 = .ok ts:=by
 rw [s.run (text.length + 1) 1 (by omega) (by omega), allF_end]
 simp [Except.map]
theorem zcb (p:UInt8->Bool):∀ (l:List UInt8) (k:Nat), (l.take k).takeWhile p = (l.takeWhile p).take k
 | [], k=>by simp
 | b :: l, 0=>by simp
 | b :: l, k + 1=>by
  rw [List.take_succ_cons, List.takeWhile_cons, List.takeWhile_cons]
  cases p b
  ·simp
  ·simp [zcb p l k]
theorem zir {text:List UInt8} {n q:Nat} {c:UInt8} (hc:text[n]? = some c) (hq:n < q):(text.take q)[n]? = some c:=by
 rw [List.getElem?_take_of_lt hq]; exact hc
theorem zom (kd:Int) (l:List UInt8) (k:Nat) (hk:1≤k):zaq kd (l.take k) = min (zaq kd l) k:=by
 have h1:∀ p:UInt8->Bool, (((l.take k).drop 1).takeWhile p).length = min ((l.drop 1).takeWhile p).length (k - 1):=by
  intro p
  have:(l.take k).drop 1 = (l.drop 1).take (k - 1):=by rw [List.drop_take]
  rw [this, zcb, List.length_take]
  omega
 unfold zaq
 split
 ·rw [h1]; omega
 ·split
  ·rw [h1]; omega
  ·omega
theorem zje {text:List UInt8} {n q:Nat} {c:UInt8} (hq:n < q) (h:n + (zx text n c).length≤q) (hn:n < text.length):zx (text.take q) n c = zx text n c:=by
 have hw:(zx text n c).length = zaq (ja c.toNat) (text.drop n):=by
  have h2:(text.drop n).length = text.length - n:=List.length_drop
  have:=zjf (ja c.toNat) (text.drop n) (by omega)
  unfold zx
  rw [List.length_take]
  omega
 have hd:(text.take q).drop n = (text.drop n).take (q - n):=by rw [List.drop_take]
 unfold zx at *
 rw [hd, zom _ _ _ (by omega), List.take_take]
 congr 1
 omega
theorem tokF_take {text:List UInt8} {n q:Nat} {c:UInt8} (hq:n < q) (h:n + (zx text n c).length≤q) (hn:n < text.length):tokF (text.take q) n c = tokF text n c:=by
 unfold tokF
 rw [zje hq h hn]
theorem remF_take {text:List UInt8} {n q:Nat} (h:n + remF (text.drop n)≤q):remF ((text.take q).drop n) = remF (text.drop n):=by
 have hd:(text.take q).drop n = (text.drop n).take (q - n):=by rw [List.drop_take]
 unfold remF at *
 rw [hd, zcb, List.length_take]
 omega
theorem Sc.cut {text:List UInt8} {n m:Nat} {ts:List Tok} (s:Sc text n ts m) (q:Nat) (hq:m≤q) (hq2:q≤text.length):Sc (text.take q) n ts m:=by
 induction s with
 | nil h=>exact .nil (by rw [List.length_take]; omega)
 | blank hc hb s ih=>
  have:=s.le
  exact .blank (zir hc (by omega)) hb (ih hq)
 | rem hc hb hr s ih=>
  have:=s.le
  obtain ⟨r1, r2⟩:=zic hc hr
  refine .rem (zir hc (by omega)) hb hr ?_
  rw [remF_take (by omega)]
  exact ih hq
 | tok hc hb hr he s ih=>
  have:=s.le
  have hlt:=zbm hc
  rename_i c
  obtain ⟨w1, w2⟩:=zbs (c:=c) hlt
  have hle:=s.le
  have e1:=tokF_take (text:=text) (c:=c) (show _ < q by omega) (by omega) hlt
  have e2:=zje (text:=text) (c:=c) (show _ < q by omega) (by omega) hlt
  rw [← e1]
  refine .tok (zir hc (by omega)) hb hr (by rw [e1]; exact he) ?_
  rw [e2]
  exact ih hq
theorem Sc.upto {text:List UInt8} {m:Nat} {ts:List Tok} (s:Sc text 0 ts m):allF (text.take m) ((text.take m).length + 1) 0 = .ok ts:=by
 have hl:(text.take m).length = m:=by rw [List.length_take]; have:=s.le; omega
 have:=s.cut m (Nat.le_refl _) s.le.2
 exact Sc.ok (by rw [hl]; exact this)
theorem znf (text:List UInt8):(262144 < text.length ∧ zcu text = .error (262144, 2)) ∨
  (text.length≤262144 ∧ ∃ ts, Sc text 0 ts text.length ∧ zcu text = .ok (ts ++ [⟨0, text.length, [], 0⟩])) ∨
  (text.length≤262144 ∧ ∃ m e ts, Sc text 0 ts m ∧ Bad text m e ∧ zcu text = .error (m, e)):=by
 unfold zcu
 by_cases hl:262144 < text.length
 ·exact .inl ⟨hl, if_pos hl⟩
 ·rw [if_neg hl]
  have:=allF_sc (text:=text) (text.length + 1) 0 (Nat.zero_le _) (by omega)
  cases h:allF text (text.length + 1) 0 with
  | ok ts=>rw [h] at this; exact .inr (.inl ⟨by omega, ts, this, rfl⟩)
  | error me=>
   rw [h] at this
   obtain ⟨m, e⟩:=me
   obtain ⟨ts, h1, h2⟩:=this
   exact .inr (.inr ⟨by omega, m, e, ts, h1, h2, rfl⟩)
theorem Sc.scan {text:List UInt8} {m:Nat} {ts:List Tok} (s:Sc text 0 ts m) (hl:text.length≤262144):zcu (text.take m) = .ok (ts ++ [⟨0, (m:Nat), [], 0⟩]):=by
 have hl2:(text.take m).length = m:=by rw [List.length_take]; have:=s.le; omega
 unfold zcu
 rw [if_neg (by have:=s.le; omega), s.upto, hl2]
 rfl
end Go.Ab.S8
namespace Go.Ab.S8
variable {α:Type} {h:H}
theorem dT {p:Prop} [Decidable p] (h:p):decide p = true:=decide_eq_true h
theorem dF {p:Prop} [Decidable p] (h:¬ p):decide p = false:=decide_eq_false h
theorem zks (k:Nat) (ret:Int->Int->M α) (h:H) (p:Nat) (m e:Int) (hp:p < h.next) (hg:h.get p = some (.cells [.int .i64 m, .int .i64 e] true)) :
  qt.f (k + 2) (.iface 56 (.ptr (some ⟨p, 0⟩))) ret h = ret m e (h.push (.cells [.ptr (some ⟨p, 0⟩)] true)):=by
 simp only [qt.f]
 unfold qt.u1.f
 have e1:∀ (K:Bool->M α), asNil (.iface 56 (.ptr (some ⟨p, 0⟩))) K = K false:=fun _=>rfl
 have e2:∀ (q:Ad) (K:Bool->M α), qac.f (k + 1) (.iface 56 (.ptr (some ⟨p, 0⟩))) (.iface 71 (.ptr (some q))) K = st1 q (.ptr (some ⟨p, 0⟩)) (K true):=fun _ _=>rfl
 have e3:∀ (q:Ad) (K:Ad->M α), asSome (some q) K = K q:=fun _ _=>rfl
 rw [e1]
 simp only [cond_false]
 rw [jc rfl, e2, yd rfl (by simp)]
 simp only [List.set_cons_zero, Bool.not_true, cond_false, jn, Nat.zero_add, Nat.add_zero]
 have hc:∀ (b:Blk) (i:Nat) , (h.push b).cell ⟨p, i⟩ = ([.int .i64 m, .int .i64 e]:List V)[i]?:=fun b i=>by
  rw [zmo (by show p ≠ h.next; omega), jp hg]
 rw [zfp (n:=some ⟨p, 0⟩) (by rw [jy]; rfl)]
 simp only [Option.isNone_some, cond_false]
 rw [zfp (n:=some ⟨p, 0⟩) (by rw [jy]; rfl), e3]
 simp only [jn, Nat.zero_add, Nat.add_zero]
 rw [jq (n:=m) (by rw [hc]; rfl), zfp (n:=some ⟨p, 0⟩) (by rw [jy]; rfl), e3]
 simp only [jn, Nat.zero_add, Nat.add_zero]
 rw [jq (n:=e) (by rw [hc]; rfl)]
theorem zfr (h:H) (i:Nat) (a b:Option Blk):(h.put i a).put i b = h.put i b:=by
 unfold H.put
 simp only [H.mk.injEq, true_and]
 funext j
 cases Nat.beq j i <;> rfl
abbrev tkC (t:Tok):Blk:=.cells [.int .i64 t.kind, .int .i64 t.pos, .str t.text, .int .i64 t.num] true
theorem tk4_all {t:Tok} {q:Nat} (hq:h.get q = some (tkC t)) (K:Int->Int->List UInt8->Int->M α) :
  (ldI .i64 ((⟨q, 0⟩:Ad).add 0) fun y0=>ldI .i64 ((⟨q, 0⟩:Ad).add 1) fun y1=>ldStr ((⟨q, 0⟩:Ad).add 2) fun y2=>ldI .i64 ((⟨q, 0⟩:Ad).add 3) fun y3=>K y0 y1 y2 y3) h = K t.kind t.pos t.text t.num h:=by
 simp only [jn]
 rw [jq (by rw [jp (a:=⟨q, 0 + 0⟩) hq]; rfl), jq (by rw [jp (a:=⟨q, 0 + 1⟩) hq]; rfl), zad (by rw [jp (a:=⟨q, 0 + 2⟩) hq]; rfl), jq (by rw [jp (a:=⟨q, 0 + 3⟩) hq]; rfl)]
theorem tk4_text {t:Tok} {q:Nat} (hq:h.get q = some (tkC t)) (K:List UInt8->M α):ldStr (((⟨q, 0⟩:Ad).add 2).add 0) K h = K t.text h:=zad (by simp only [jn]; rw [jp (a:=⟨q, 0 + 2 + 0⟩) hq]; rfl)
theorem tk_copy {z0 z1 z3:Int} {z2:List UInt8} (t:Tok) (K:Ad->M α) :
  new [.int .i64 z0, .int .i64 z1, .str z2, .int .i64 z3] (fun n=>st1 (n.add 0) (.int .i64 t.kind) <| st1 (n.add 1) (.int .i64 t.pos) <| st1 (n.add 2) (.str t.text) <| st1 (n.add 3) (.int .i64 t.num) <| K n) h =
   K ⟨h.next, 0⟩ (h.push (tkC t)):=by
 rw [jc rfl]
 simp only [jn, Nat.zero_add]
 rw [yd rfl (by simp), yd rfl (by simp), yd rfl (by simp), yd rfl (by simp)]
 rfl
theorem Tok.len (t:Tok):t.cells.length = 4:=rfl
abbrev TkR (h:H) (s:Sl) (l:List Tok):Prop:=Rd h s 4 (zag l)
section
variable {s:Sl} {l:List Tok}
theorem tk_slen (r:TkR h s l):s.len = l.length:=slen (c:=Tok.cells) Tok.len (by decide) r
theorem zhv (r:TkR h s l) {i:Nat} {n:Tok} (hi:l[i]? = some n) {j:Nat} {v:V} (hv:n.cells[j]? = some v) (hj:j < 4):(zag l)[i * 4 + j]? = some v:=
 (zbx Tok.len l i n j hi hj).trans hv
theorem tk_idx (r:TkR h s l) {x:Int} {i:Nat} {n:Tok} (hx:x = (i:Int)) (hi:l[i]? = some n) (K:Ad->M α):idxSl s x 4 K h = K (s.at (i * 4)) h:=
 zff r hx (by rw [tk_slen r]; exact zbf hi) K
theorem tk_all (r:TkR h s l) {x:Int} {i:Nat} {n:Tok} (hx:x = (i:Int)) (hi:l[i]? = some n) (K:Int->Int->List UInt8->Int->M α) :
  idxSl s x 4 (fun a=>ldI .i64 (a.add 0) fun x0=>ldI .i64 (a.add 1) fun x1=>ldStr (a.add 2) fun x2=>ldI .i64 (a.add 3) fun x3=>K x0 x1 x2 x3) h = K n.kind n.pos n.text n.num h:=by
 rw [tk_idx r hx hi]
 simp only [zjs]
 rw [r.ldI (zhv r hi (j:=0) rfl (by decide)), r.ldI (zhv r hi (j:=1) rfl (by decide)), r.ldStr (zhv r hi (j:=2) rfl (by decide)), r.ldI (zhv r hi (j:=3) rfl (by decide))]
end
theorem from_id {s:Sl} {n m size:Nat} {b:Ad} (hb:s.from n m size = some b):∃ a, s.ad = some a ∧ a.id = b.id:=by
 unfold Sl.from at hb
 cases hls:s.ad with
 | none=>
  rw [hls] at hb
  cases hlo:s.loose with
  | none=>rw [hlo] at hb; dsimp only at hb; cases hq:Nat.beq m n <;> simp [hq] at hb
  | some e=>rw [hlo] at hb; cases hb
 | some a=>
  rw [hls] at hb
  refine ⟨a, rfl, ?_⟩
  cases hlo:s.loose with
  | none=>
   rw [hlo] at hb
   dsimp only at hb
   cases hq:Nat.beq m n with
   | true=>rw [hq, cond_true] at hb; cases hb; rfl
   | false=>rw [hq, cond_false] at hb; cases hb; rfl
  | some e=>rw [hlo] at hb; cases hb; rfl
theorem Row.toRd {s:Sl} {size:Nat} {cs:List V} (r:Row h s size cs):Rd h s size cs:=by
 have hl:=r.len
 rcases r with ⟨rfl, h1⟩ | ⟨id, h1, h2, h3, h4⟩
 ·subst h1; exact Rd.nilSl h size
 ·refine ⟨hl, fun a ha=>?_, fun hn=>?_⟩
  ·rw [h1] at ha
   cases ha
   refine ⟨?_, h4⟩
   rw [zau h2 (by simp)]
   simp
  ·rw [h1] at hn; cases hn
theorem Row.toApp {s:Sl} {size:Nat} {cs:List V} (r:Row h s size cs):App h s size cs:=by
 refine ⟨Row.toRd r, ?_, ?_⟩
 ·rcases r with ⟨rfl, h1⟩ | ⟨id, h1, h2, h3, h4⟩
  ·intro _; rfl
  ·intro hn; rw [h1] at hn; cases hn
 ·rcases r with ⟨rfl, h1⟩ | ⟨id, h1, h2, h3, h4⟩
  ·exact .inl ⟨rfl, rfl⟩
  ·refine .inr ⟨by rw [h1], by rw [h1]; exact Nat.le_refl _, ⟨id, 0⟩, by rw [h1], ?_⟩
   unfold H.own
   rw [h2]
end Go.Ab.S8
namespace Go.Ab.S8
variable {α:Type} {h:H}
structure Gm where
 ow:List Int
 pr:List Int
 mv:List (List Int)
 deriving DecidableEq
def cSl (s:Sl):List V:=[.slice s]
structure MvR (h:H) (m:Sl) (mv:List (List Int)) (rows:List Sl):Prop where
 top:Rd h m 1 (rows.flatMap cSl)
 len:rows.length = mv.length
 row:∀ (i:Nat) (r:Sl) (l:List Int), rows[i]? = some r->mv[i]? = some l->Rd h r 1 (l.flatMap cI)
structure GmR (h:H) (o p m:Sl) (g:Gm):Prop where
 o:Rd h o 1 (g.ow.flatMap cI)
 p:Rd h p 1 (g.pr.flatMap cI)
 m:∃ rows, MvR h m g.mv rows
theorem MvR.ext {h':H} {m:Sl} {mv:List (List Int)} {rows:List Sl} (r:MvR h m mv rows) (x:Ext h h'):MvR h' m mv rows:=
 ⟨r.top.ext x, r.len, fun i s l h1 h2=>(r.row i s l h1 h2).ext x⟩
theorem GmR.ext {h':H} {o p m:Sl} {g:Gm} (r:GmR h o p m g) (x:Ext h h'):GmR h' o p m g:=
 ⟨r.o.ext x, r.p.ext x, r.m.imp fun _ r=>r.ext x⟩
theorem ilen {s:Sl} {l:List Int} (r:Rd h s 1 (l.flatMap cI)):s.len = l.length:=zex (c:=cI) (fun _=>rfl) r
theorem mlen {m:Sl} {mv:List (List Int)} {rows:List Sl} (r:MvR h m mv rows):m.len = mv.length:=by
 rw [← r.len]; exact zex (c:=cSl) (fun _=>rfl) r.top
theorem mv_at {m:Sl} {mv:List (List Int)} {rows:List Sl} (r:MvR h m mv rows) {i:Nat} {l:List Int} (hi:mv[i]? = some l) :
  ∃ s, Rd h s 1 (l.flatMap cI) ∧ rows[i]? = some s ∧ ∀ (α:Type) (x:Int) (K:Sl->M α), x = (i:Int)->idxSl m x 1 (fun a=>ldS (a.add 0) K) h = K s h:=by
 have hlt:i < rows.length:=by rw [r.len]; exact zbf hi
 have hs:rows[i]? = some rows[i]:=List.getElem?_eq_getElem hlt
 refine ⟨rows[i], r.row i _ l hs hi, hs, fun α x K hx=>?_⟩
 rw [zff r.top hx (by rw [zex (c:=cSl) (fun _=>rfl) r.top]; exact hlt), zjs]
 refine r.top.ldS (n:=i * 1 + 0) ?_ K
 rw [zbx (c:=cSl) (size:=1) (fun _=>rfl) rows i _ 0 hs (by decide)]
 rfl
def yy (n:Int):Int->List Int->Bool
 | _, []=>true
 | last, m :: l=>(decide (last < m) && decide (m < n)) && yy n m l
def rowE (n o p:Int) (l:List Int):Int:=if o < 0 ∨ 1 < o then 14 else if p < 0 ∨ 7 < p then 15 else if l.length = 0 then 17 else if yy n (-1) l then 0 else 16
def zdh (n:Int):Nat->List Int->List Int->List (List Int)->Int × Int
 | i, o :: os, p :: ps, l :: ls=>if rowE n o p l = 0 then zdh n (i + 1) os ps ls else ((i:Int), rowE n o p l)
 | _, _, _, _=>(0, 0)
def zde (g:Gm):Int × Int:=if g.ow.length ≠ g.mv.length ∨ g.pr.length ≠ g.mv.length then (0, 1) else if g.mv.length < 1 ∨ 200 < g.mv.length then (0, 10) else zdh g.mv.length 0 g.ow g.pr g.mv
theorem zjm (n:Int):∀ (i:Nat) (os ps:List Int) (ls:List (List Int)), (zdh n i os ps ls).2 = 0->zdh n i os ps ls = (0, 0)
 | i, o :: os, p :: ps, l :: ls, h=>by
  rw [zdh] at h ⊢
  by_cases c:rowE n o p l = 0
  ·rw [if_pos c] at h ⊢; exact zjm n _ _ _ _ h
  ·rw [if_neg c] at h; exact absurd h c
 | _, [], _, _, _=>by cases ‹List Int› <;> cases ‹List (List Int)› <;> rfl
 | _, _ :: _, [], _, _=>by cases ‹List (List Int)› <;> rfl
 | _, _ :: _, _ :: _, [], _=>rfl
def zcn (l:List Int) (j:Nat):Int:=if j = 0 then -1 else l.getD (j - 1) 0
theorem zhc {l:List Int} {j:Nat} {m:Int} (hm:l[j]? = some m):zcn l (j + 1) = m:=by
 unfold zcn
 simp [hm]
theorem idec {β:Type} {l:List β} {j:Nat} (hj:j≤l.length):(∃ m, l[j]? = some m ∧ l.drop j = m :: l.drop (j + 1) ∧ j < l.length) ∨ (l.drop j = [] ∧ j = l.length):=by
 rcases Nat.lt_or_ge j l.length with h | h
 ·exact .inl ⟨l[j], List.getElem?_eq_getElem h, List.drop_eq_getElem_cons h, h⟩
 ·exact .inr ⟨List.drop_of_length_le h, by omega⟩
theorem zeo {n last m:Int} {l:List Int} (h:¬ (last < m ∧ m < n)):yy n last (m :: l) = false:=by
 unfold yy
 rcases Decidable.em (last < m) with h1 | h1
 ·rw [dT h1, dF (fun h2=>h ⟨h1, h2⟩)]; rfl
 ·rw [dF h1]; rfl
theorem zod {n last m:Int} {l:List Int} (h1:last < m) (h2:m < n):yy n last (m :: l) = yy n m l:=by
 rw [yy, dT h1, dT h2]; rfl
theorem mv_loop (k:Nat) (kr:Int->Int->M α) (kx4:Ad->Int->Sl->Int->Int->M α) {g5:Ad} {n i c ii:Int} {sl m:Sl} {l:List Int} (r:Rd h sl 1 (l.flatMap cI)) (hl:l.length≤4611686018427387904) :
  ∀ (f j:Nat), j≤l.length->l.length - j < f->(∀ m', zcn l j < m'->0≤m') ->
   qd.u6.l k kr kx4 f g5 n i sl m c ii sl (sl.len:Int) (j:Int) h = if yy n (zcn l j) (l.drop j) then kx4 g5 n m c ii h else kr i 16 h:=by
 have hlen:=ilen r
 intro f
 induction f with
 | zero=>intro j _ hf; omega
 | succ f ih=>
  intro j hj hf hp
  rw [qd.u6.l, qd.u5.f, hlen]
  rcases idec hj with ⟨v, hv, hd, hlt⟩ | ⟨hd, he⟩
  ·rw [dT (by omega:(j:Int) < (l.length:Int)), cond_true, zbz r rfl hv, hd]
   by_cases h0:v < 0
   ·rw [dT h0, cond_true, zeo (fun hh=>by have:=hp v hh.1; omega)]; rfl
   rw [dF h0, cond_false]
   by_cases h1:n≤v
   ·rw [dT h1, cond_true, zeo (fun hh=>by omega)]; rfl
   rw [dF h1, cond_false]
   have hnext:zcn l j < v->qd.u6.l k kr kx4 f g5 n i sl m c ii sl (l.length:Int) (w64 ((j:Int) + 1)) h = if yy n (zcn l j) (v :: l.drop (j + 1)) then kx4 g5 n m c ii h else kr i 16 h:=fun hlast=>by
    have:=ih (j + 1) hlt (by omega) (by rw [zhc hv]; intro m' hm; omega)
    rw [hlen, zhc hv] at this
    rw [jg (by omega) (by omega), zod hlast (by omega)]
    exact this
   by_cases hj0:j = 0
   ·rw [dF (by omega:¬ (0:Int) < (j:Int)), cond_false]
    exact hnext (by unfold zcn; rw [if_pos hj0]; omega)
   ·have hprev:l[j - 1]? = some (l.getD (j - 1) 0):=by
     rw [List.getElem?_eq_getElem (by omega), List.getD, List.getElem?_eq_getElem (by omega)]; rfl
    rw [dT (by omega:(0:Int) < (j:Int)), cond_true, zbz r (x:=w64 ((j:Int) - 1)) (i:=j - 1) (by rw [jg (by omega) (by omega)]; omega) hprev]
    have hlast:zcn l j = l.getD (j - 1) 0:=if_neg hj0
    by_cases h2:v≤l.getD (j - 1) 0
    ·rw [dT h2, cond_true, zeo (fun hh=>by rw [hlast] at hh; omega)]; rfl
    ·rw [dF h2, cond_false]
     exact hnext (by rw [hlast]; omega)
  ·rw [dF (by omega:¬ (j:Int) < (l.length:Int)), cond_false, hd]
   rfl
theorem drop3 {β γ δ:Type} {a:List β} {b:List γ} {c:List δ} {i:Nat} (h1:a.length = c.length) (h2:b.length = c.length) (hi:i < c.length) :
  ∃ x y z, a[i]? = some x ∧ b[i]? = some y ∧ c[i]? = some z ∧ a.drop i = x :: a.drop (i + 1) ∧ b.drop i = y :: b.drop (i + 1) ∧ c.drop i = z :: c.drop (i + 1):=
 ⟨a[i], b[i], c[i], List.getElem?_eq_getElem _, List.getElem?_eq_getElem _, List.getElem?_eq_getElem _, List.drop_eq_getElem_cons _, List.drop_eq_getElem_cons _, List.drop_eq_getElem_cons _⟩
abbrev gC (o p m:Sl):Blk:=.cells [.slice o, .slice p, .slice m] true
section
variable {o p m:Sl} {q:Nat}
theorem g_o (hq:h.get q = some (gC o p m)) (K:Sl->M α):ldS (((⟨q, 0⟩:Ad).add 0).add 0) K h = K o h:=zcf (by simp only [jn]; rw [jp (a:=⟨q, 0 + 0 + 0⟩) hq]; rfl)
theorem g_p (hq:h.get q = some (gC o p m)) (K:Sl->M α):ldS (((⟨q, 0⟩:Ad).add 1).add 0) K h = K p h:=zcf (by simp only [jn]; rw [jp (a:=⟨q, 0 + 1 + 0⟩) hq]; rfl)
theorem g_m (hq:h.get q = some (gC o p m)) (K:Sl->M α):ldS (((⟨q, 0⟩:Ad).add 2).add 0) K h = K m h:=zcf (by simp only [jn]; rw [jp (a:=⟨q, 0 + 2 + 0⟩) hq]; rfl)
theorem g_o' (hq:h.get q = some (gC o p m)) (K:Sl->M α):ldS ((⟨q, 0⟩:Ad).add 0) K h = K o h:=zcf (by simp only [jn]; rw [jp (a:=⟨q, 0 + 0⟩) hq]; rfl)
theorem g_p' (hq:h.get q = some (gC o p m)) (K:Sl->M α):ldS ((⟨q, 0⟩:Ad).add 1) K h = K p h:=zcf (by simp only [jn]; rw [jp (a:=⟨q, 0 + 1⟩) hq]; rfl)
theorem g_m' (hq:h.get q = some (gC o p m)) (K:Sl->M α):ldS ((⟨q, 0⟩:Ad).add 2) K h = K m h:=zcf (by simp only [jn]; rw [jp (a:=⟨q, 0 + 2⟩) hq]; rfl)
end
theorem ye (cs:List V):(h.push (.cells cs true)).get h.next = some (.cells cs true):=by rw [zt, if_pos rfl]
theorem rows_loop (k:Nat) (kr:Int->Int->M α) (kx1:M α) {q:Nat} {o p m:Sl} {g:Gm} {rows:List Sl} (hq:h.get q = some (gC o p m)) (ro:Rd h o 1 (g.ow.flatMap cI)) (rp:Rd h p 1 (g.pr.flatMap cI)) (rm:MvR h m g.mv rows)
  (h1:g.ow.length = g.mv.length) (h2:g.pr.length = g.mv.length) (hn:g.mv.length≤200) (hk:∀ l ∈ g.mv, l.length < k ∧ l.length≤4611686018427387904) :
  ∀ (f i:Nat), i≤g.mv.length->g.mv.length - i < f ->
   qd.u13.l k kr kx1 f ⟨q, 0⟩ (g.mv.length:Int) m (g.mv.length:Int) (i:Int) h =
    if (zdh g.mv.length i (g.ow.drop i) (g.pr.drop i) (g.mv.drop i)).2 = 0 then kx1 h else kr (zdh g.mv.length i (g.ow.drop i) (g.pr.drop i) (g.mv.drop i)).1 (zdh g.mv.length i (g.ow.drop i) (g.pr.drop i) (g.mv.drop i)).2 h:=by
 intro f
 induction f with
 | zero=>intro i _ hf; omega
 | succ f ih=>
  intro i hi hf
  rw [qd.u13.l, qd.u12.f, qd.u3.f]
  by_cases hlt:i < g.mv.length
  ·obtain ⟨x, y, l, hx, hy, hl, dx, dy, dl⟩:=drop3 h1 h2 hlt
   obtain ⟨s, rs, _, es⟩:=mv_at rm hl
   have hb:=hk l (List.mem_of_getElem? hl)
   have hslen:=ilen rs
   rw [dT (by omega:(i:Int) < (g.mv.length:Int)), cond_true, dx, dy, dl, zdh]
   unfold qd.u11.f qd.u9.f qd.u8.f qd.u4.f
   rw [es α _ _ rfl, g_o hq, zbz ro rfl hx]
   by_cases c1:x < 0
   ·rw [dT c1, cond_true, show rowE (g.mv.length:Int) x y l = 14 from if_pos (.inl c1)]; rfl
   rw [dF c1, cond_false, g_o hq, zbz ro rfl hx]
   by_cases c2:1 < x
   ·rw [dT c2, cond_true, show rowE (g.mv.length:Int) x y l = 14 from if_pos (.inr c2)]; rfl
   have e1:rowE (g.mv.length:Int) x y l = if y < 0 ∨ 7 < y then 15 else if l.length = 0 then 17 else if yy (g.mv.length:Int) (-1) l then 0 else 16:=if_neg (by omega)
   rw [dF c2, cond_false, g_p hq, zbz rp rfl hy]
   by_cases c3:y < 0
   ·rw [dT c3, cond_true, e1, if_pos (Or.inl c3)]; rfl
   rw [dF c3, cond_false, g_p hq, zbz rp rfl hy]
   by_cases c4:7 < y
   ·rw [dT c4, cond_true, e1, if_pos (Or.inr c4)]; rfl
   rw [if_neg (by omega)] at e1
   rw [dF c4, cond_false, hslen]
   by_cases c5:l.length = 0
   ·rw [dT (by omega:(l.length:Int) = 0), cond_true, e1, if_pos c5]; rfl
   rw [if_neg c5] at e1
   rw [dF (by omega:¬ (l.length:Int) = 0), cond_false, ← hslen]
   have hloop:=mv_loop k kr (fun y0 y1 y2 y3 y4=>qd.u10.f k y0 y1 y2 y3 y4 fun y0 y1 y2 y3 y4=>qd.u13.l k kr kx1 f y0 y1 y2 y3 y4) (g5:=⟨q, 0⟩) (n:=(g.mv.length:Int)) (i:=(i:Int)) (c:=(g.mv.length:Int)) (ii:=(i:Int)) (m:=m) rs hb.2 k 0 (Nat.zero_le _) (by omega) (by unfold zcn; simp; omega)
   rw [show zcn l 0 = -1 from rfl, List.drop_zero] at hloop
   refine hloop.trans ?_
   rw [e1]
   cases hm:yy (g.mv.length:Int) (-1) l with
   | false=>rfl
   | true=>
    rw [if_pos rfl, if_pos rfl, if_pos rfl, qd.u10.f, jg (by omega) (by omega)]
    exact ih (i + 1) hlt (by omega)
  ·have:i = g.mv.length:=by omega
   subst this
   rw [dF (by omega:¬ (g.mv.length:Int) < (g.mv.length:Int)), cond_false, List.drop_length, List.drop_of_length_le (Nat.le_of_eq h1), List.drop_of_length_le (Nat.le_of_eq h2)]
   rfl
theorem right_run (k:Nat) {o p m:Sl} {g:Gm} (r:GmR h o p m g) (h200:201 < k) (hk:∀ l ∈ g.mv, l.length < k ∧ l.length≤4611686018427387904) (ret:Int->Int->M α) :
  qd.f (k + 1) o p m ret h = ret (zde g).1 (zde g).2 (h.push (gC o p m)):=by
 obtain ⟨rows, rm⟩:=r.m
 have x:=(Ext.refl h).push (gC o p m)
 have hq:(h.push (gC o p m)).get h.next = some (gC o p m):=ye _
 have l1:=ilen r.o
 have l2:=ilen r.p
 have l3:=mlen rm
 rw [qd.f, qd.u18.f, qd.u1.f, jc rfl, g_m hq, g_o hq, l1, l3]
 unfold zde
 by_cases c1:g.ow.length = g.mv.length
 ·rw [dT (by omega:(g.ow.length:Int) = (g.mv.length:Int)), Bool.not_true, cond_false, g_p hq, l2]
  by_cases c2:g.pr.length = g.mv.length
  ·rw [dT (by omega:(g.pr.length:Int) = (g.mv.length:Int)), Bool.not_true, cond_false, if_neg (by omega)]
   by_cases c3:g.mv.length < 1
   ·rw [dT (by omega:(g.mv.length:Int) < 1), cond_true, if_pos (Or.inl c3)]
   rw [dF (by omega:¬ (g.mv.length:Int) < 1), cond_false]
   by_cases c4:200 < g.mv.length
   ·rw [dT (by omega:200 < (g.mv.length:Int)), cond_true, if_pos (Or.inr c4)]
   rw [dF (by omega:¬ 200 < (g.mv.length:Int)), cond_false, if_neg (by omega)]
   unfold qd.u17.f qd.u15.f qd.u2.f
   rw [g_m hq, l3]
   refine (rows_loop k ret (qd.u16.f k ret) hq (r.o.ext x) (r.p.ext x) (rm.ext x) c1 c2 (by omega) hk k 0 (Nat.zero_le _) (by omega)).trans ?_
   simp only [List.drop_zero]
   cases hr:zdh (g.mv.length:Int) 0 g.ow g.pr g.mv with
   | mk a e=>
    by_cases he:e = 0
    ·subst he
     have:=zjm (g.mv.length:Int) 0 g.ow g.pr g.mv (by rw [hr])
     rw [hr] at this
     obtain rfl:a = 0:=(Prod.mk.inj this).1
     rfl
    ·rw [if_neg he]
  ·rw [dF (by omega:¬ (g.pr.length:Int) = (g.mv.length:Int)), Bool.not_false, cond_true, if_pos (by omega)]
 ·rw [dF (by omega:¬ (g.ow.length:Int) = (g.mv.length:Int)), Bool.not_false, cond_true, if_pos (by omega)]
end Go.Ab.S8
namespace Go.Ab.S8
variable {α:Type} {h:H}
structure GB (k:Nat) (g:Gm):Prop where
 o:g.ow.length < k ∧ g.ow.length≤17592186044416
 p:g.pr.length < k ∧ g.pr.length≤17592186044416
 m:g.mv.length < k ∧ g.mv.length≤5864062014805
 l:∀ l ∈ g.mv, l.length < k ∧ l.length≤17592186044416
theorem GB.mono {k j:Nat} {g:Gm} (b:GB k g) (h:k≤j):GB j g:=
 ⟨⟨by have:=b.o.1; omega, b.o.2⟩, ⟨by have:=b.p.1; omega, b.p.2⟩, ⟨by have:=b.m.1; omega, b.m.2⟩, fun l hl=>⟨by have:=(b.l l hl).1; omega, (b.l l hl).2⟩⟩
theorem GB.k {k:Nat} {g:Gm} (b:GB k g):∀ l ∈ g.mv, l.length < k ∧ l.length≤4611686018427387904:=fun l hl=>⟨(b.l l hl).1, by have:=(b.l l hl).2; omega⟩
structure MvO (h:H) (b:Nat) (m:Sl) (mv:List (List Int)) (rows:List Sl):Prop where
 app:App h m 1 (rows.flatMap cSl)
 len:rows.length = mv.length
 row:∀ (i:Nat) (r:Sl) (l:List Int), rows[i]? = some r->mv[i]? = some l->Rd h r 1 (l.flatMap cI)
 top:∀ a, m.ad = some a->b≤a.id
 own:∀ (r:Sl) (a:Ad), r ∈ rows->r.ad = some a->b≤a.id ∧ ∀ a', m.ad = some a'->a.id ≠ a'.id
theorem MvO.rd {b:Nat} {m:Sl} {mv:List (List Int)} {rows:List Sl} (r:MvO h b m mv rows):MvR h m mv rows:=⟨r.app.rd, r.len, r.row⟩
theorem MvO.nil (h:H) (b:Nat):MvO h b Sl.nil [] []:=⟨App.nilSl h 1, rfl, fun i r l h=>(by simp at h), fun a ha=>(by cases ha), fun r a h=>(by cases h)⟩
theorem MvO.keep {h':H} {b:Nat} {m:Sl} {mv:List (List Int)} {rows:List Sl} (r:MvO h b m mv rows) (hn:h.next≤h'.next) (hg:∀ i, b≤i->i < h.next->h'.get i = h.get i):MvO h' b m mv rows:=by
 refine ⟨r.app.keep hn fun a ha=>hg _ (r.top a ha) (r.app.rd.row a ha).2, r.len, fun i s l h1 h2=>?_, r.top, r.own⟩
 have:=r.row i s l h1 h2
 exact this.keep hn fun a ha=>hg _ (r.own s a (List.mem_of_getElem? h1) ha).1 (this.row a ha).2
theorem zim {q:Nat} {v:V} (hq:h.get q = some (.cells [v] true)) (hlt:q < h.next):Rd h ⟨some ⟨q, 0⟩, 1, 1, none⟩ 1 [v]:=
 ⟨rfl, fun a ha=>by cases ha; exact ⟨(zau hq (Nat.le_refl _)).trans rfl, hlt⟩, fun e=>(by cases e)⟩
end Go.Ab.S8
namespace Go.Ab.S8
variable {α:Type} {h:H}
theorem g_st {q:Nat} {v0 v1 v2:V} (hq:h.get q = some (.cells [v0, v1, v2] true)) (o p m:Sl) (K:M α) :
  (st1 ((⟨q, 0⟩:Ad).add 0) (.slice o) <| st1 ((⟨q, 0⟩:Ad).add 1) (.slice p) <| st1 ((⟨q, 0⟩:Ad).add 2) (.slice m) K) h = K (h.put q (some (gC o p m))):=by
 have pp:∀ (h:H) (i:Nat) (a b:Option Blk), (h.put i a).put i b = h.put i b:=zfr
 simp only [jn, Nat.zero_add]
 rw [zas (a:=⟨q, 0⟩) hq rfl (by simp), zas (a:=⟨q, 1⟩) (by rw [js]) rfl (by simp), pp, zas (a:=⟨q, 2⟩) (by rw [js]) rfl (by simp), pp]
 rfl
theorem g_new (o p m:Sl) (K:Ad->M α) :
  (new [.slice Sl.nil, .slice Sl.nil, .slice Sl.nil] fun x=>st1 (x.add 0) (.slice o) <| st1 (x.add 1) (.slice p) <| st1 (x.add 2) (.slice m) (K x)) h = K ⟨h.next, 0⟩ (h.push (gC o p m)):=by
 rw [jc rfl, g_st (ye _), zig]
end Go.Ab.S8
