import Derived.Test.YtmanohnlcedeaaaAb20
import Derived.Test.YtmanohnlcedeaaaS7a
set_option linter.unusedVariables false
set_option linter.unusedSimpArgs false
namespace Go.Ab.S7
variable {α:Type} {h:H}
def yn (c:Int):Int:=
 if c = 10 then 1 else if 97≤c ∧ c≤122 then 2 else if 65≤c ∧ c≤90 then 3 else if 48≤c ∧ c≤57 then 4 else if 32 < c ∧ c < 127 ∧ c ≠ 95 then 5 else 0
theorem kind_run (k:Nat) (c:Int) (ret:Int->M α):qbp.f (k + 1) c ret h = ret (yn c) h:=by
 show qbp.u1.f k c ret h = _
 unfold qbp.u1.f
 by_cases h1:c = 10
 ·simp [yn, h1]
 by_cases h2:97≤c ∧ c≤122
 ·simp [yn, h1, h2]
 by_cases h3:65≤c ∧ c≤90
 ·have a1:¬ 97≤c:=by omega
  simp [yn, h1, a1, h3]
 by_cases h4:48≤c ∧ c≤57
 ·have a1:¬ 97≤c:=by omega
  have a2:¬ 65≤c:=by omega
  simp [yn, h1, a1, a2, h4]
 have k0:yn c = if 32 < c ∧ c < 127 ∧ c ≠ 95 then 5 else 0:=by unfold yn; rw [if_neg h1, if_neg h2, if_neg h3, if_neg h4]
 rw [k0]
 have d1:decide (c = 10) = false:=by simpa using h1
 rw [d1]
 by_cases b1:97≤c <;> by_cases b2:c≤122 <;> by_cases b3:65≤c <;> by_cases b4:c≤90 <;> by_cases b5:48≤c <;> by_cases b6:c≤57 <;> first
  | (exfalso; omega)
  | (by_cases b7:32 < c <;> by_cases b8:c < 127 <;> by_cases b9:c = 95 <;> first | (exfalso; omega) | simp [b1, b2, b3, b4, b5, b6, b7, b8, b9])
def zbe (b:UInt8):Bool:=decide (48≤(b.toNat:Int)) && decide ((b.toNat:Int)≤57)
def zbt (b:UInt8):Bool:=decide ((b.toNat:Int) = 95) || (decide (97≤(b.toNat:Int)) && decide ((b.toNat:Int)≤122)) || (decide (65≤(b.toNat:Int)) && decide ((b.toNat:Int)≤90)) || zbe b
def zed (kind:Int) (s:List UInt8):Nat:=
 if kind = 4 then 1 + ((s.drop 1).takeWhile zbe).length else if kind = 2 ∨ kind = 3 then 1 + ((s.drop 1).takeWhile zbt).length else 1
theorem zhh {s:List UInt8} {n:Nat} (hn:n < s.length):s.drop n = s[n] :: s.drop (n + 1):=List.drop_eq_getElem_cons hn
theorem loop1 (k:Nat) (kx:Int->M α) (s:List UInt8) (hs:s.length≤4611686018427387904):∀ (j n:Nat), n≤s.length->s.length - n < j ->
  qf.u5.l k kx j s (n:Int) h = kx ((n + ((s.drop n).takeWhile zbe).length:Nat):Int) h
 | 0, n, _, hj=>by omega
 | j + 1, n, hn, hj=>by
  unfold qf.u5.l qf.u4.f
  by_cases hlt:n < s.length
  ·have d1:decide ((n:Int) < (s.length:Int)) = true:=by simpa using hlt
   rw [d1, zhh hlt, List.takeWhile_cons]
   simp only [cond_true]
   have hb:s[n]? = some s[n]:=List.getElem?_eq_getElem hlt
   rw [yd rfl hb]
   simp only [zbe]
   by_cases hd:48≤(s[n].toNat:Int)
   case neg=>simp [hd]
   case pos=>
    simp only [decide_eq_true hd, cond_true]
    rw [yd rfl hb]
    by_cases hd2:(s[n].toNat:Int)≤57
    case neg=>simp [hd2]
    case pos=>
     simp only [decide_eq_true hd2, cond_true, Bool.and_self, if_true]
     rw [zw (by omega) (by omega), show ((n:Int) + 1) = ((n + 1:Nat):Int) by omega, loop1 k kx s hs j (n + 1) hlt (by omega)]
     congr 1
     simp [zbe]; omega
  ·have d1:decide ((n:Int) < (s.length:Int)) = false:=by simpa using hlt
   rw [d1, List.drop_of_length_le (by omega)]
   simp
theorem u8_run (k:Nat) (kn:List UInt8->Int->M α) (kx:Int->M α) (s:List UInt8) (n:Nat) (hlt:n < s.length) :
  qf.u8.f k s (n:Int) kn kx h = if zbt s[n] then kn s (w64 ((n:Int) + 1)) h else kx (n:Int) h:=by
 have rd:∀ (K:Int->M α), idxStr s (n:Int) K h = K (s[n].toNat:Int) h:=fun K=>yd rfl (List.getElem?_eq_getElem hlt)
 have d1:decide ((n:Int) < (s.length:Int)) = true:=by simpa using hlt
 unfold qf.u8.f
 simp only [zbt, zbe]
 generalize kn s (w64 ((n:Int) + 1)) = A
 generalize kx (n:Int) = B
 rw [d1, cond_true, rd]
 obtain ⟨c, hc⟩:∃ c:Int, (s[n].toNat:Int) = c:=⟨_, rfl⟩
 simp only [hc] at rd ⊢
 have tail4:(idxStr s (n:Int) fun c9=>cond (decide (48≤c9)) (idxStr s (n:Int) fun c10=>cond (decide (c10≤57)) A B) B) h = if (decide (48≤c) && decide (c≤57)) = true then A h else B h:=by
  rw [rd]
  by_cases c6:48≤c
  ·simp only [c6, decide_true, cond_true, Bool.true_and]
   rw [rd]
   by_cases c7:c≤57 <;> simp [c7]
  ·simp [c6]
 have tail3:(idxStr s (n:Int) fun c7=>cond (decide (65≤c7)) (idxStr s (n:Int) fun c8=>cond (decide (c8≤90)) A (idxStr s (n:Int) fun c9=>cond (decide (48≤c9)) (idxStr s (n:Int) fun c10=>cond (decide (c10≤57)) A B) B))
   (idxStr s (n:Int) fun c9=>cond (decide (48≤c9)) (idxStr s (n:Int) fun c10=>cond (decide (c10≤57)) A B) B)) h = if (decide (65≤c) && decide (c≤90) || decide (48≤c) && decide (c≤57)) = true then A h else B h:=by
  rw [rd]
  by_cases c6:65≤c
  ·simp only [c6, decide_true, cond_true, Bool.true_and]
   rw [rd]
   by_cases c7:c≤90
   ·simp [c7]
   ·simp only [c7, decide_false, cond_false, Bool.false_or]
    exact tail4
  ·simp only [c6, decide_false, cond_false, Bool.false_and, Bool.false_or]
   exact tail4
 by_cases c1:c = 95
 ·simp [c1]
 ·simp only [c1, decide_false, cond_false, Bool.false_or]
  rw [rd]
  by_cases c2:97≤c
  ·simp only [c2, decide_true, cond_true, Bool.true_and]
   rw [rd]
   by_cases c3:c≤122
   ·simp [c3]
   ·simp only [c3, decide_false, cond_false, Bool.false_or]
    exact tail3
  ·simp only [c2, decide_false, cond_false, Bool.false_and, Bool.false_or]
   exact tail3
theorem loop2 (k:Nat) (kx:Int->M α) (s:List UInt8) (hs:s.length≤4611686018427387904):∀ (j n:Nat), n≤s.length->s.length - n < j ->
  qf.u9.l k kx j s (n:Int) h = kx ((n + ((s.drop n).takeWhile zbt).length:Nat):Int) h
 | 0, n, _, hj=>by omega
 | j + 1, n, hn, hj=>by
  unfold qf.u9.l
  by_cases hlt:n < s.length
  ·rw [u8_run k _ kx s n hlt, zhh hlt, List.takeWhile_cons]
   cases hb:zbt s[n] with
   | false=>simp
   | true=>
    simp only [if_true]
    rw [zw (by omega) (by omega), show ((n:Int) + 1) = ((n + 1:Nat):Int) by omega, loop2 k kx s hs j (n + 1) hlt (by omega)]
    congr 1
    simp; omega
  ·have d1:decide ((n:Int) < (s.length:Int)) = false:=by simpa using hlt
   unfold qf.u8.f
   rw [d1, List.drop_of_length_le (by omega)]
   simp
theorem long_run (k:Nat) (c:Int) (s:List UInt8) (ret:Int->M α) (h1:1≤s.length) (hk:s.length < k) (hs:s.length≤4611686018427387904) :
  qf.f (k + 1) c s ret h = ret (zed c s:Int) h:=by
 show qf.u20.f k c s ret h = _
 unfold qf.u20.f qf.u1.f qf.u19.f qf.u17.f qf.u2.f qf.u16.f qf.u15.f qf.u3.f qf.u18.f
 unfold zed
 by_cases h4:c = 4
 ·rw [if_pos h4]
  subst h4
  simp only [decide_true, cond_true]
  have:=loop1 (h:=h) k ret s hs k 1 h1 (by omega)
  exact this
 ·rw [if_neg h4]
  have d4:decide (c = 4) = false:=by simpa using h4
  simp only [d4, cond_false]
  unfold qf.u13.f qf.u7.f qf.u12.f qf.u10.f qf.u9.f qf.u11.f
  by_cases h2:c = 2
  ·rw [if_pos (.inl h2)]
   subst h2
   simp only [decide_true, cond_true]
   exact loop2 (h:=h) k ret s hs k 1 h1 (by omega)
  ·have d2:decide (c = 2) = false:=by simpa using h2
   simp only [d2, cond_false]
   by_cases h3:c = 3
   ·rw [if_pos (.inr h3)]
    subst h3
    simp only [decide_true, cond_true]
    exact loop2 (h:=h) k ret s hs k 1 h1 (by omega)
   ·rw [if_neg (by rintro (h | h); exact h2 h; exact h3 h)]
    have d3:decide (c = 3) = false:=by simpa using h3
    simp only [d3, cond_false]
    rfl
def numF (s:List UInt8):Int:=s.foldl (fun n b=>10 * n + ((b.toNat:Int) - 48)) 0
theorem zhc:∀ (s:List UInt8) (n:Int), (∀ b ∈ s, zbe b = true)->0≤n ->
  n * 10 ^ s.length≤s.foldl (fun n b=>10 * n + ((b.toNat:Int) - 48)) n ∧ s.foldl (fun n b=>10 * n + ((b.toNat:Int) - 48)) n < (n + 1) * 10 ^ s.length
 | [], n, _, hn=>by simp; omega
 | b :: s, n, hd, hn=>by
  have hb:=hd b List.mem_cons_self
  simp only [zbe, Bool.and_eq_true, decide_eq_true_eq] at hb
  obtain ⟨h1, h2⟩:=zhc s (10 * n + ((b.toNat:Int) - 48)) (fun c hc=>hd c (List.mem_cons_of_mem _ hc)) (by omega)
  simp only [List.foldl_cons, List.length_cons, Int.pow_succ]
  have hp:(0:Int) < 10 ^ s.length:=Int.pow_pos (by decide)
  generalize (10:Int) ^ s.length = p at h1 h2 hp ⊢
  constructor
  ·refine Int.le_trans ?_ h1
   rw [Int.mul_comm p 10, ← Int.mul_assoc]
   exact Int.mul_le_mul_of_nonneg_right (by omega) (Int.le_of_lt hp)
  ·refine Int.lt_of_lt_of_le h2 ?_
   rw [Int.mul_comm p 10, ← Int.mul_assoc]
   exact Int.mul_le_mul_of_nonneg_right (by omega) (Int.le_of_lt hp)
def zoe (s:List UInt8):Bool:=decide (4 < s.length) || (decide (1 < s.length) && decide (s[0]? = some 48))
theorem loop3 (k:Nat) (kx:Int->M α) (s:List UInt8) (hs:s.length≤4) (hd:∀ b ∈ s, zbe b = true):∀ (j n:Nat), n≤s.length->s.length - n < j ->
  qk.u5.l k kx j s (numF (s.take n)) (s.length:Int) (n:Int) h = kx (numF s) h
 | 0, n, _, hj=>by omega
 | j + 1, n, hn, hj=>by
  unfold qk.u5.l qk.u4.f
  by_cases hlt:n < s.length
  ·have d1:decide ((n:Int) < (s.length:Int)) = true:=by simpa using hlt
   rw [d1, cond_true, yd rfl (List.getElem?_eq_getElem hlt)]
   have hb:=hd s[n] (List.getElem_mem hlt)
   simp only [zbe, Bool.and_eq_true, decide_eq_true_eq] at hb
   have hbd:=zhc (s.take n) 0 (fun b hb=>hd b (List.mem_of_mem_take hb)) (by omega)
   have hnn:numF (s.take (n + 1)) = 10 * numF (s.take n) + ((s[n].toNat:Int) - 48):=by
    unfold numF
    rw [List.take_add_one, List.getElem?_eq_getElem hlt, List.foldl_append]
    rfl
   have hlen:(s.take n).length≤3:=by simp; omega
   have hp:(10:Int) ^ (s.take n).length≤1000:=by
    generalize (s.take n).length = q at hlen
    match q, hlen with
    | 0, _=>decide
    | 1, _=>decide
    | 2, _=>decide
    | 3, _=>decide
   have hlo:0≤numF (s.take n):=by have:=hbd.1; unfold numF; simpa using this
   have hhi:numF (s.take n) < 1000:=by have:=hbd.2; unfold numF; simp at this ⊢; omega
   have e1:IntKind.wrap .u8 ((s[n].toNat:Int) - 48) = (s[n].toNat:Int) - 48:=by
    rw [IntKind.wrap_u8']; omega
   rw [e1, zw (n:=(s[n].toNat:Int) - 48) (by omega) (by omega), zw (n:=10 * numF (s.take n)) (by omega) (by omega), zw (by omega) (by omega), zw (by omega) (by omega), ← hnn,
    show ((n:Int) + 1) = ((n + 1:Nat):Int) by omega]
   exact loop3 k kx s hs hd j (n + 1) hlt (by omega)
  ·have d1:decide ((n:Int) < (s.length:Int)) = false:=by simpa using hlt
   rw [d1, List.take_of_length_le (by omega)]
   rfl
theorem value_run (k:Nat) (s:List UInt8) (ret:Int->Bool->M α) (hd:∀ b ∈ s, zbe b = true) (hk:s.length < k) :
  qk.f (k + 1) s ret h = (if zoe s then ret 0 false else ret (numF s) true) h:=by
 show qk.u11.f k s ret h = _
 unfold qk.u11.f qk.u1.f zoe
 by_cases h4:4 < s.length
 ·have:decide ((4:Int) < (s.length:Int)) = true:=by simp; omega
  simp [this, h4]
 ·have d4:decide ((4:Int) < (s.length:Int)) = false:=by simp; omega
  simp only [d4, cond_false, h4, decide_false, Bool.false_or]
  have go:qk.u10.f k s ret h = ret (numF s) true h:=by
   unfold qk.u10.f qk.u2.f qk.u9.f qk.u7.f qk.u3.f qk.u6.f qk.u5.f
   have:=loop3 (h:=h) k (fun y0=>qk.u8.f k y0 ret) s (by omega) hd k 0 (Nat.zero_le _) (by omega)
   refine Eq.trans this ?_
   unfold qk.u8.f
   have hbd:=zhc s 0 hd (by omega)
   have hp:(10:Int) ^ s.length≤10000:=by
    have hlen:s.length≤4:=by omega
    generalize s.length = q at hlen
    match q, hlen with
    | 0, _=>decide
    | 1, _=>decide
    | 2, _=>decide
    | 3, _=>decide
    | 4, _=>decide
   have:decide (numF s≤9999) = true:=by have:=hbd.2; unfold numF; simp at this ⊢; omega
   rw [this]
  by_cases h1:1 < s.length
  ·have d1:decide ((1:Int) < (s.length:Int)) = true:=by simp; omega
   have hb:s[0]? = some s[0]:=List.getElem?_eq_getElem (by omega)
   simp only [d1, cond_true, h1, decide_true, Bool.true_and]
   rw [yd (i:=0) (n:=0) rfl hb]
   by_cases h0:s[0] = 48
   ·have e0:decide ((s[0].toNat:Int) = 48) = true:=by rw [h0]; rfl
    simp [e0, hb, h0]
   ·have e0:decide ((s[0].toNat:Int) = 48) = false:=by
     simp only [decide_eq_false_iff_not]
     intro hc
     apply h0
     apply UInt8.toNat_inj.1
     have:(48:UInt8).toNat = 48:=rfl
     omega
    simp only [e0, cond_false, hb, Option.some.injEq, h0, decide_false, Bool.false_eq_true, if_false]
    exact go
  ·have d1:decide ((1:Int) < (s.length:Int)) = false:=by simp; omega
   simp only [d1, cond_false, h1, decide_false, Bool.false_and, Bool.false_eq_true, if_false]
   exact go
structure Tok where
 kind:Int
 pos:Int
 text:List UInt8
 num:Int
 deriving DecidableEq
def Tok.cells (t:Tok):List V:=[.int .i64 t.kind, .int .i64 t.pos, .str t.text, .int .i64 t.num]
def yr (text:List UInt8) (n:Nat) (c:UInt8):List UInt8:=(text.drop n).take (zed (yn c.toNat) (text.drop n))
def tokF (text:List UInt8) (n:Nat) (c:UInt8):Tok × Int:=
 if yn c.toNat = 0 then (⟨0, n, yr text n c, 0⟩, 3)
 else if yn c.toNat = 2 ∨ yn c.toNat = 3 then (⟨yn c.toNat, n, yr text n c, 0⟩, if 8 < (yr text n c).length then 5 else 0)
 else if yn c.toNat = 4 then (if zoe (yr text n c) then (⟨4, n, yr text n c, 0⟩, 4) else (⟨4, n, yr text n c, numF (yr text n c)⟩, 0))
 else (⟨yn c.toNat, n, yr text n c, 0⟩, 0)
theorem zmd (p:UInt8->Bool):∀ r:List UInt8, r.take (r.takeWhile p).length = r.takeWhile p
 | []=>rfl
 | b :: r=>by
  rw [List.takeWhile_cons]
  cases hp:p b
  ·rfl
  ·simp [zmd p r]
theorem zmz (c:Int) (s:List UInt8):1≤zed c s:=by unfold zed; split <;> (try split) <;> omega
theorem zpu (c:Int) (s:List UInt8) (hs:1≤s.length):zed c s≤s.length:=by
 have h1:∀ p:UInt8->Bool, ((s.drop 1).takeWhile p).length≤s.length - 1:=fun p=>by
  have h2:=(List.takeWhile_prefix p (l:=s.drop 1)).length_le
  have h3:(s.drop 1).length = s.length - 1:=List.length_drop
  omega
 unfold zed
 split
 ·have:=h1 zbe; omega
 ·split
  ·have:=h1 zbt; omega
  ·omega
theorem znq {text:List UInt8} {n:Nat} {c:UInt8} (hc:text[n]? = some c):text.drop n = c :: text.drop (n + 1):=by
 have hlt:n < text.length:=by
  rcases Nat.lt_or_ge n text.length with h | h
  ·exact h
  ·rw [List.getElem?_eq_none h] at hc; cases hc
 rw [List.drop_eq_getElem_cons hlt]
 rw [List.getElem?_eq_getElem hlt] at hc
 cases hc; rfl
theorem kind4 {c:UInt8} (h:yn c.toNat = 4):zbe c = true:=by
 unfold yn at h
 split at h
 ·cases h
 ·split at h
  ·cases h
  ·split at h
   ·cases h
   ·split at h
    ·rename_i hd; simp [zbe, hd]
    ·split at h <;> cases h
theorem zph {text:List UInt8} {n:Nat} {c:UInt8} (hc:text[n]? = some c) (h4:yn c.toNat = 4):yr text n c = c :: (text.drop (n + 1)).takeWhile zbe:=by
 unfold yr
 rw [h4, znq hc]
 unfold zed
 rw [if_pos rfl, List.drop_one, List.tail_cons, Nat.add_comm, List.take_succ_cons, zmd]
theorem zgt (p:UInt8->Bool):∀ (r:List UInt8), ∀ b ∈ r.takeWhile p, p b = true
 | [], b, hb=>by cases hb
 | a :: r, b, hb=>by
  rw [List.takeWhile_cons] at hb
  cases hp:p a with
  | false=>rw [hp] at hb; cases hb
  | true=>
   rw [hp] at hb
   cases hb with
   | head=>exact hp
   | tail _ hb=>exact zgt p r b hb
theorem token_run (k:Nat) (text:List UInt8) (n:Nat) (c:UInt8) (hc:text[n]? = some c) (ret:Int->Int->List UInt8->Int->Int->M α) (hk:text.length + 3≤k) (hs:text.length≤4611686018427387903) :
  qbj.f (k + 1) text (n:Int) ret h = ret (tokF text n c).1.kind (tokF text n c).1.pos (tokF text n c).1.text (tokF text n c).1.num (tokF text n c).2
   ((h.push (.cells (tokF text n c).1.cells true)).push (.cells (tokF text n c).1.cells true)):=by
 have hlt:n < text.length:=by
  rcases Nat.lt_or_ge n text.length with h | h
  ·exact h
  ·rw [List.getElem?_eq_none h] at hc; cases hc
 obtain ⟨k, rfl⟩:∃ q, k = q + 1:=⟨k - 1, by omega⟩
 have hlen:(text.drop n).length = text.length - n:=List.length_drop
 have hl1:=zmz (yn c.toNat) (text.drop n)
 have hl2:=zpu (yn c.toNat) (text.drop n) (by omega)
 simp only [qbj.f]
 unfold qbj.u1.f
 rw [jk rfl, yd rfl hc, kind_run, jk rfl]
 simp only [jg, Nat.zero_add, Nat.add_zero]
 rw [yc rfl (by simp), yc rfl (by simp), yc rfl (by simp), yc rfl (by simp)]
 simp only [List.set_cons_zero, List.set_cons_succ]
 rw [jn (n:=yn c.toNat) (by rw [yb]; rfl), zfr rfl (by omega), long_run k _ _ _ (by omega) (by omega) (by omega)]
 rw [zw (by omega) (by omega), zpo (n:=n) (m:=n + zed (yn c.toNat) (text.drop n)) rfl (by omega) (by omega) (by omega)]
 rw [yc rfl (by simp)]
 simp only [List.set_cons_zero, List.set_cons_succ]
 rw [jn (n:=yn c.toNat) (by rw [yb]; rfl)]
 have hw:(text.take (n + zed (yn c.toNat) (text.drop n))).drop n = yr text n c:=by
  unfold yr
  rw [List.drop_take]
  congr 1
  omega
 rw [hw]
 -- what comes last, in every case
 have fin:∀ (kd num:Int) (w:List UInt8) (e:Int), (ldI .i64 ⟨(h.push (.cells [.int .i64 0, .int .i64 0, .str [], .int .i64 0] true)).next, 0⟩ fun x29=>ldI .i64 ⟨(h.push (.cells [.int .i64 0, .int .i64 0, .str [], .int .i64 0] true)).next, 1⟩ fun x30=>
   ldStr ⟨(h.push (.cells [.int .i64 0, .int .i64 0, .str [], .int .i64 0] true)).next, 2⟩ fun x31=>ldI .i64 ⟨(h.push (.cells [.int .i64 0, .int .i64 0, .str [], .int .i64 0] true)).next, 3⟩ fun x32=>
   st1 ⟨h.next, 0⟩ (.int .i64 x29) <| st1 ⟨h.next, 1⟩ (.int .i64 x30) <| st1 ⟨h.next, 2⟩ (.str x31) <| st1 ⟨h.next, 3⟩ (.int .i64 x32) <|
   ldI .i64 ⟨h.next, 0⟩ fun o501=>ldI .i64 ⟨h.next, 1⟩ fun o502=>ldStr ⟨h.next, 2⟩ fun o503=>ldI .i64 ⟨h.next, 3⟩ fun o504=>ret o501 o502 o503 o504 e)
    ((h.push (.cells [.int .i64 0, .int .i64 0, .str [], .int .i64 0] true)).push (.cells [.int .i64 kd, .int .i64 n, .str w, .int .i64 num] true)) =
   ret kd n w num e ((h.push (.cells [.int .i64 kd, .int .i64 n, .str w, .int .i64 num] true)).push (.cells [.int .i64 kd, .int .i64 n, .str w, .int .i64 num] true)):=by
  intro kd num w e
  rw [jn (n:=kd) (by rw [yb]; rfl), jn (n:=(n:Int)) (by rw [yb]; rfl), zad (n:=w) (by rw [yb]; rfl), jn (n:=num) (by rw [yb]; rfl)]
  rw [zfw rfl (by simp), zfw rfl (by simp), zfw rfl (by simp), zfw rfl (by simp)]
  simp only [List.set_cons_zero, List.set_cons_succ]
  rw [jn (n:=kd) (by rw [zdj]; rfl), jn (n:=(n:Int)) (by rw [zdj]; rfl), zad (n:=w) (by rw [zdj]; rfl), jn (n:=num) (by rw [zdj]; rfl)]
 unfold tokF
 by_cases h0:yn c.toNat = 0
 ·have d0:decide (yn c.toNat = 0) = true:=by simpa using h0
  rw [if_pos h0, d0, cond_true, h0]
  exact fin _ _ _ _
 have d0:decide (yn c.toNat = 0) = false:=by simpa using h0
 rw [if_neg h0, d0, cond_false]
 by_cases h2:yn c.toNat = 2
 ·have d2:decide (yn c.toNat = 2) = true:=by simpa using h2
  rw [if_pos (.inl h2)]
  simp only [d2, cond_true]
  rw [zad (n:=yr text n c) (by rw [yb]; rfl)]
  by_cases h8:8 < (yr text n c).length
  ·have d8:decide (8 < ((yr text n c).length:Int)) = true:=by simp; omega
   rw [d8, cond_true, if_pos h8]
   exact fin _ _ _ _
  ·have d8:decide (8 < ((yr text n c).length:Int)) = false:=by simp; omega
   rw [d8, cond_false, if_neg h8]
   exact fin _ _ _ _
 have d2:decide (yn c.toNat = 2) = false:=by simpa using h2
 simp only [d2, cond_false]
 by_cases h3:yn c.toNat = 3
 ·have d3:decide (yn c.toNat = 3) = true:=by simpa using h3
  rw [if_pos (.inr h3)]
  simp only [d3, cond_true]
  rw [zad (n:=yr text n c) (by rw [yb]; rfl)]
  by_cases h8:8 < (yr text n c).length
  ·have d8:decide (8 < ((yr text n c).length:Int)) = true:=by simp; omega
   rw [d8, cond_true, if_pos h8]
   exact fin _ _ _ _
  ·have d8:decide (8 < ((yr text n c).length:Int)) = false:=by simp; omega
   rw [d8, cond_false, if_neg h8]
   exact fin _ _ _ _
 have d3:decide (yn c.toNat = 3) = false:=by simpa using h3
 rw [if_neg (by rintro (h | h); exact h2 h; exact h3 h)]
 simp only [d3, cond_false]
 by_cases h4:yn c.toNat = 4
 ·have d4:decide (yn c.toNat = 4) = true:=by simpa using h4
  rw [if_pos h4]
  simp only [d4, cond_true]
  have hdig:∀ b ∈ yr text n c, zbe b = true:=by
   rw [zph hc h4]
   intro b hb
   cases hb with
   | head=>exact kind4 h4
   | tail _ hb=>exact zgt _ _ b hb
  have hwl:(yr text n c).length≤text.length:=by
   unfold yr
   rw [List.length_take, hlen]; omega
  rw [zad (n:=yr text n c) (by rw [yb]; rfl), value_run k _ _ hdig (by omega)]
  cases hb:zoe (yr text n c) with
  | true=>
   simp only [if_true, Bool.not_false, cond_true, h4]
   exact fin _ _ _ _
  | false=>
   simp only [Bool.false_eq_true, if_false, Bool.not_true, cond_false, h4]
   rw [yc rfl (by simp)]
   simp only [List.set_cons_zero, List.set_cons_succ]
   exact fin _ _ _ _
 ·have d4:decide (yn c.toNat = 4) = false:=by simpa using h4
  rw [if_neg h4]
  simp only [d4, cond_false]
  exact fin _ _ _ _
def remF (s:List UInt8):Nat:=(s.takeWhile fun b=>b != 10).length
theorem zqv (s:List UInt8):zha s 10 = if (10:UInt8) ∈ s then (remF s:Int) else -1:=by
 induction s with
 | nil=>rfl
 | cons b s ih=>
  unfold zha remF
  rw [List.takeWhile_cons]
  by_cases hb:b = 10
  ·subst hb; simp
  ·have h1:(b == 10) = false:=by simpa using hb
   have h2:(b != 10) = true:=by simpa using hb
   rw [h1, h2, ih]
   have h3:(10:UInt8) ∈ b :: s ↔ 10 ∈ s:=by simp [Ne.symm hb]
   by_cases hm:(10:UInt8) ∈ s
   ·rw [if_pos hm, if_pos (h3.2 hm)]
    have:(((remF s:Nat):Int) == -1) = false:=by rw [beq_eq_false_iff_ne]; omega
    rw [this]
    simp only [Bool.false_eq_true, if_false, if_true, List.length_cons]
    unfold remF
    push_cast
    rfl
   ·rw [if_neg hm, if_neg (fun h=>hm (h3.1 h))]
    simp
theorem rem_none {s:List UInt8} (h:¬ (10:UInt8) ∈ s):remF s = s.length:=by
 unfold remF
 induction s with
 | nil=>rfl
 | cons b s ih=>
  have hb:b ≠ 10:=fun e=>h (e ▸ List.mem_cons_self)
  rw [List.takeWhile_cons, show (b != 10) = true by simpa using hb]
  simp [ih fun hm=>h (List.mem_cons_of_mem _ hm)]
theorem index_run (k:Nat) (s:List UInt8) (ret:Int->M α):qbt.f (k + 3) s 10 ret h = ret (if (10:UInt8) ∈ s then (remF s:Int) else -1) h:=by
 rw [← zqv]
 rfl
def allF (text:List UInt8):Nat->Nat->Except (Nat × Int) (List Tok)
 | 0, _=>.ok []
 | f + 1, n=>match text[n]? with
  | none=>.ok []
  | some c=>if (c.toNat:Int) = 32 ∨ (c.toNat:Int) = 9 then allF text f (n + 1) else if (c.toNat:Int) = 35 then allF text f (n + remF (text.drop n)) else
   if (tokF text n c).2 = 0 then (allF text f (n + (tokF text n c).1.text.length)).map ((tokF text n c).1 :: ·) else .error (n, (tokF text n c).2)
def jx (l:List Tok):List V:=l.flatMap Tok.cells
theorem zgs (l:List Tok):(jx l).length = l.length * 4:=by
 induction l with
 | nil=>rfl
 | cons t l ih=>
  have h1:t.cells.length = 4:=rfl
  simp only [jx, List.flatMap_cons, List.length_append, List.length_cons] at ih ⊢
  omega
theorem zih (text:List UInt8) (n:Nat) (c:UInt8):(tokF text n c).1.text = yr text n c:=by
 unfold tokF
 repeat' split
 all_goals rfl
theorem tokF_pos (text:List UInt8) (n:Nat) (c:UInt8):(tokF text n c).1.pos = n:=by
 unfold tokF
 repeat' split
 all_goals rfl
theorem zeu {text:List UInt8} {n:Nat} {c:UInt8} (hn:n < text.length):1≤(yr text n c).length ∧ n + (yr text n c).length≤text.length:=by
 have h1:=zmz (yn c.toNat) (text.drop n)
 have h2:(text.drop n).length = text.length - n:=List.length_drop
 unfold yr
 rw [List.length_take]
 omega
theorem zoz {text:List UInt8} {n:Nat} {c:UInt8} (hc:text[n]? = some c) (h35:(c.toNat:Int) = 35):1≤remF (text.drop n) ∧ n + remF (text.drop n)≤text.length:=by
 have hl:(remF (text.drop n))≤(text.drop n).length:=by unfold remF; exact (List.takeWhile_prefix _).length_le
 have h2:(text.drop n).length = text.length - n:=List.length_drop
 have hlt:n < text.length:=by
  rcases Nat.lt_or_ge n text.length with h | h
  ·exact h
  ·rw [List.getElem?_eq_none h] at hc; cases hc
 refine ⟨?_, by omega⟩
 unfold remF
 rw [znq hc, List.takeWhile_cons]
 have:(c != 10) = true:=by
  simp only [bne_iff_ne, ne_eq]
  rintro rfl
  simp at h35
 rw [this]
 simp
theorem all_loop (k:Nat) (text:List UInt8) (hlen:text.length≤262144) (hk:text.length + 5≤k) (h₀:H) :
  ∀ (j n:Nat) (acc:List Tok) (sl:Sl) (h:H), n≤text.length->text.length - n < j->Ext h₀ h->Row h sl 4 (jx acc)->zah h₀ sl->acc.length≤n ->
   match allF text j n with
   | .ok ts=>∃ sl' h', (∀ (α:Type) (kr:Sl->Ad->M α) (kx:List UInt8->Sl->M α), ql.u4.l k kr kx j text sl (n:Int) h = kx text sl' h') ∧ Ext h₀ h' ∧ Row h' sl' 4 (jx (acc ++ ts)) ∧ zah h₀ sl' ∧ acc.length + ts.length≤text.length
   | .error (m, e)=>∃ p h', (∀ (α:Type) (kr:Sl->Ad->M α) (kx:List UInt8->Sl->M α), ql.u4.l k kr kx j text sl (n:Int) h = kr Sl.nil ⟨p, 0⟩ h') ∧ Ext h₀ h' ∧ h₀.next≤p ∧ p < h'.next ∧ h'.get p = some (.cells [.int .i64 (m:Int), .int .i64 e] true):=by
 intro j
 induction j with
 | zero=>intro n acc sl h hn hj; omega
 | succ j ih=>
  intro n acc sl h hn hj hx hr ho ha
  obtain ⟨k', rfl⟩:∃ q, k = q + 1:=⟨k - 1, by omega⟩
  simp only [allF]
  cases hc:text[n]? with
  | none=>
   have hge:text.length≤n:=by
    rcases Nat.lt_or_ge n text.length with h | h
    ·rw [List.getElem?_eq_getElem h] at hc; cases hc
    ·exact h
   have d0:decide ((n:Int) < (text.length:Int)) = false:=by simpa using hge
   refine ⟨sl, h, fun α kr kx=>?_, hx, by simpa using hr, ho, by simpa using by omega⟩
   unfold ql.u4.l ql.u3.f
   rw [d0, cond_false]
  | some c=>
   have hlt:n < text.length:=by
    rcases Nat.lt_or_ge n text.length with h | h
    ·exact h
    ·rw [List.getElem?_eq_none h] at hc; cases hc
   have d0:decide ((n:Int) < (text.length:Int)) = true:=by simpa using hlt
   -- one round on
   have on:∀ (m:Nat) (acc':List Tok) (sl':Sl) (h':H), (∀ (α:Type) (kr:Sl->Ad->M α) (kx:List UInt8->Sl->M α), ql.u4.l (k' + 1) kr kx (j + 1) text sl (n:Int) h = ql.u4.l (k' + 1) kr kx j text sl' (m:Int) h') ->
     (match allF text j m with
     | .ok ts=>∃ sl'' h'', (∀ (α:Type) (kr:Sl->Ad->M α) (kx:List UInt8->Sl->M α), ql.u4.l (k' + 1) kr kx j text sl' (m:Int) h' = kx text sl'' h'') ∧ Ext h₀ h'' ∧ Row h'' sl'' 4 (jx (acc' ++ ts)) ∧ zah h₀ sl'' ∧ acc'.length + ts.length≤text.length
     | .error (q, e)=>∃ p h'', (∀ (α:Type) (kr:Sl->Ad->M α) (kx:List UInt8->Sl->M α), ql.u4.l (k' + 1) kr kx j text sl' (m:Int) h' = kr Sl.nil ⟨p, 0⟩ h'') ∧ Ext h₀ h'' ∧ h₀.next≤p ∧ p < h''.next ∧ h''.get p = some (.cells [.int .i64 (q:Int), .int .i64 e] true)) ->
     (match allF text j m with
     | .ok ts=>∃ sl'' h'', (∀ (α:Type) (kr:Sl->Ad->M α) (kx:List UInt8->Sl->M α), ql.u4.l (k' + 1) kr kx (j + 1) text sl (n:Int) h = kx text sl'' h'') ∧ Ext h₀ h'' ∧ Row h'' sl'' 4 (jx (acc' ++ ts)) ∧ zah h₀ sl'' ∧ acc'.length + ts.length≤text.length
     | .error (q, e)=>∃ p h'', (∀ (α:Type) (kr:Sl->Ad->M α) (kx:List UInt8->Sl->M α), ql.u4.l (k' + 1) kr kx (j + 1) text sl (n:Int) h = kr Sl.nil ⟨p, 0⟩ h'') ∧ Ext h₀ h'' ∧ h₀.next≤p ∧ p < h''.next ∧ h''.get p = some (.cells [.int .i64 (q:Int), .int .i64 e] true)):=by
    intro m acc' sl' h' hstep hfin
    cases hall:allF text j m with
    | ok ts=>
     rw [hall] at hfin
     obtain ⟨sl'', h'', f1, f2⟩:=hfin
     exact ⟨sl'', h'', fun α kr kx=>(hstep α kr kx).trans (f1 α kr kx), f2⟩
    | error qe=>
     rw [hall] at hfin
     obtain ⟨q, e⟩:=qe
     obtain ⟨p, h'', f1, f2⟩:=hfin
     exact ⟨p, h'', fun α kr kx=>(hstep α kr kx).trans (f1 α kr kx), f2⟩
   have b32:∀ v:Int, (decide ((c.toNat:Int) = v) = true ↔ (c.toNat:Int) = v):=fun v=>by simp
   dsimp only
   by_cases h329:(c.toNat:Int) = 32 ∨ (c.toNat:Int) = 9
   ·rw [if_pos h329]
    refine on (n + 1) acc sl h (fun α kr kx=>?_) (ih (n + 1) acc sl h hlt (by omega) hx hr ho (by omega))
    rw [ql.u4.l, ql.u3.f]
    rw [d0, cond_true, yd rfl hc, zw (n:=(n:Int) + 1) (by omega) (by omega)]
    by_cases h32:(c.toNat:Int) = 32
    ·rw [(b32 _).2 h32, cond_true]; rfl
    ·rw [show decide ((c.toNat:Int) = 32) = false by simpa using h32, cond_false, (b32 _).2 (h329.resolve_left h32), cond_true]; rfl
   have h32:decide ((c.toNat:Int) = 32) = false:=by simp; exact fun h=>h329 (.inl h)
   have h9:decide ((c.toNat:Int) = 9) = false:=by simp; exact fun h=>h329 (.inr h)
   rw [if_neg h329]
   by_cases h35:(c.toNat:Int) = 35
   ·rw [if_pos h35]
    obtain ⟨r1, r2⟩:=zoz hc h35
    obtain ⟨k3, rfl⟩:∃ q, k' = q + 2:=⟨k' - 2, by omega⟩
    refine on (n + remF (text.drop n)) acc sl h (fun α kr kx=>?_) (ih (n + remF (text.drop n)) acc sl h r2 (by omega) hx hr ho (by omega))
    rw [ql.u4.l, ql.u3.f]
    rw [d0, cond_true, yd rfl hc, h32, cond_false, h9, cond_false, (b32 _).2 h35, cond_true]
    rw [zfr rfl (by omega), index_run k3]
    by_cases hm:(10:UInt8) ∈ text.drop n
    ·rw [if_pos hm, show decide ((remF (text.drop n):Int) < 0) = false by simp, cond_false, zw (by omega) (by omega)]
     rfl
    ·rw [if_neg hm, show decide ((-1:Int) < 0) = true by decide, cond_true, zw (n:=(text.length:Int) - n) (by omega) (by omega), zw (by omega) (by omega)]
     have hrl:=rem_none hm
     have h2:(text.drop n).length = text.length - n:=List.length_drop
     rw [show (n:Int) + ((text.length:Int) - n) = ((n + remF (text.drop n):Nat):Int) by omega]
   ·rw [if_neg h35]
    have d35:decide ((c.toNat:Int) = 35) = false:=by simpa using h35
    have tr:=fun (α:Type) (ret:Int->Int->List UInt8->Int->Int->M α)=>token_run (h:=h) k' text n c hc ret (by omega) (by omega)
    have htext:=zih text n c
    have hpos:=tokF_pos text n c
    obtain ⟨w1, w2⟩:=zeu (c:=c) hlt
    rw [← htext] at w1 w2
    generalize tokF text n c = te at *
    obtain ⟨t, e⟩:=te
    dsimp only at *
    have e1:Ext h ((h.push (.cells t.cells true)).push (.cells t.cells true)):=((Ext.refl h).push _).push _
    generalize ((h.push (.cells t.cells true)).push (.cells t.cells true)) = h1 at *
    -- as far as the token's own copy
    have start:∀ (α:Type) (kr:Sl->Ad->M α) (kx:List UInt8->Sl->M α), ql.u4.l (k' + 1) kr kx (j + 1) text sl (n:Int) h =
      (cond (!(decide (e = 0))) (new [.int .i64 (n:Int), .int .i64 e] fun x14=>kr Sl.nil x14) (
       ldI .i64 ⟨h1.next, 0⟩ fun x15=>ldI .i64 ⟨h1.next, 1⟩ fun x16=>ldStr ⟨h1.next, 2⟩ fun x17=>ldI .i64 ⟨h1.next, 3⟩ fun x18=>
       new [.int .i64 x15, .int .i64 x16, .str x17, .int .i64 x18] fun r19=>zq sl 4 40 (⟨some r19, 1, 1, none⟩:Sl) fun x20=>ldStr ⟨h1.next, 2⟩ fun x21=>
       ql.u4.l (k' + 1) kr kx j text x20 (w64 ((n:Int) + (x21.length:Int))))) (h1.push (.cells t.cells true)):=by
     intro α kr kx
     rw [ql.u4.l, ql.u3.f]
     rw [d0, cond_true, yd rfl hc, h32, cond_false, h9, cond_false, d35, cond_false, tr, jk rfl]
     simp only [jg, Nat.zero_add, Nat.add_zero]
     rw [yc rfl (by simp), yc rfl (by simp), yc rfl (by simp), yc rfl (by simp)]
     simp only [List.set_cons_zero, List.set_cons_succ]
     rfl
    by_cases he:e = 0
    ·rw [if_pos he]
     have hx1:Ext h ((h1.push (.cells t.cells true)).push (.cells t.cells true)):=(e1.push _).push _
     have hr1:=hr.ext hx1
     have hlen4:=hr.len
     rw [zgs] at hlen4
     obtain ⟨h2, a1, a2, a3, a4⟩:=zmc (bytes:=40)
      (x:=⟨some ⟨(h1.push (.cells t.cells true)).next, 0⟩, 1, 1, none⟩) (more:=t.cells) hr1 rfl
      (by rw [zct (cs:=t.cells) (o:=true) (by rw [zk]; exact if_pos rfl) (by show 0 + 1 * 4≤4; omega)]; rfl) (Nat.succ_pos _) (by decide)
      (by show (sl.len + 1 + (sl.len + 1) / 4 + 512) * 40≤_; omega)
     have hcell:h2.cell ⟨h1.next, 2⟩ = some (.str t.text):=by
      rw [jf (cs:=t.cells) (o:=true)]
      ·rfl
      ·rw [a4 h1.next (by rw [zj, zj]; omega)]
       ·rw [zk, if_neg (by rw [zj]; omega), zk, if_pos rfl]
       ·intro a hsa
        rcases hr with ⟨rfl, _⟩ | ⟨id, q1, q2, q3, q4⟩
        ·cases hsa
        ·rw [q1] at hsa
         cases hsa
         have:=e1.1
         show h1.next ≠ id
         omega
     have hx2:Ext h₀ h2:=(hx.trans hx1).app ho a3 a4
     have hfin:=ih (n + t.text.length) (acc ++ [t]) _ h2 w2 (by omega) hx2 (by rw [show jx (acc ++ [t]) = jx acc ++ t.cells by simp [jx]]; exact a2)
      (fun a ha=>by cases ha; have:=hx.1; have:=e1.1; simp only [zj]; omega) (by simp; omega)
     have hstep:∀ (α:Type) (kr:Sl->Ad->M α) (kx:List UInt8->Sl->M α), ql.u4.l (k' + 1) kr kx (j + 1) text sl (n:Int) h = ql.u4.l (k' + 1) kr kx j text ⟨some ⟨((h1.push (.cells t.cells true)).push (.cells t.cells true)).next, 0⟩, sl.len + 1, sl.len + 1, some 4⟩ ((n + t.text.length:Nat):Int) h2:=by
      intro α kr kx
      rw [start, show (!(decide (e = 0))) = false by simpa using he, cond_false]
      rw [jn (n:=t.kind) (by rw [yb]; rfl), jn (n:=t.pos) (by rw [yb]; rfl), zad (n:=t.text) (by rw [yb]; rfl), jn (n:=t.num) (by rw [yb]; rfl), jk rfl]
      refine (a1 α _).trans ?_
      rw [zad hcell, zw (by omega) (by omega)]
      rfl
     have hh:=on (n + t.text.length) (acc ++ [t]) _ h2 hstep hfin
     cases hall:allF text j (n + t.text.length) with
     | ok ts=>
      rw [hall] at hh
      obtain ⟨sl', h', f1, f2, f3, f4, f5⟩:=hh
      exact ⟨sl', h', f1, f2, by simpa using f3, f4, by simp at f5 ⊢; omega⟩
     | error me=>
      rw [hall] at hh
      exact hh
    ·rw [if_neg he]
     refine ⟨(h1.push (.cells t.cells true)).next, _, fun α kr kx=>?_, ((hx.trans e1).push (.cells t.cells true)).push (.cells [.int .i64 (n:Int), .int .i64 e] true), ?_, ?_, ?_⟩
     ·rw [start, show (!(decide (e = 0))) = true by simpa using he, cond_true, jk rfl]
     ·have:=hx.1; have:=e1.1; simp only [zj]; omega
     ·simp only [zj]; omega
     ·rw [zk, if_pos rfl]
def zhr (text:List UInt8):Except (Nat × Int) (List Tok):=
 if 262144 < text.length then .error (262144, 2) else (allF text (text.length + 1) 0).map (· ++ [⟨0, text.length, [], 0⟩])
theorem znc (text:List UInt8):∀ (f g n:Nat), n≤text.length->text.length - n < f->text.length - n < g->allF text f n = allF text g n:=by
 intro f
 induction f with
 | zero=>intro g n hn h; omega
 | succ f ih=>
  intro g n hn hf hg
  cases g with
  | zero=>omega
  | succ g=>
   simp only [allF]
   cases hc:text[n]? with
   | none=>rfl
   | some c=>
    have hlt:n < text.length:=by
     rcases Nat.lt_or_ge n text.length with h | h
     ·exact h
     ·rw [List.getElem?_eq_none h] at hc; cases hc
    dsimp only
    split
    ·exact ih g _ hlt (by omega) (by omega)
    ·split
     ·rename_i h35
      obtain ⟨r1, r2⟩:=zoz hc h35
      exact ih g _ r2 (by omega) (by omega)
     ·obtain ⟨w1, w2⟩:=zeu (c:=c) hlt
      rw [zih]
      rw [ih g _ w2 (by omega) (by omega)]
theorem All_run (k:Nat) (text:List UInt8) (hk:min text.length 262144 + 6≤k) (h:H) :
  match zhr text with
  | .ok ts=>∃ sl h', (∀ (α:Type) (ret:Sl->V->M α), ql.f (k + 1) text ret h = ret sl .nilIface h') ∧ Ext h h' ∧ Row h' sl 4 (jx ts) ∧ zah h sl ∧ ts.length≤text.length + 1 ∧ text.length≤262144
  | .error (m, e)=>∃ p h', (∀ (α:Type) (ret:Sl->V->M α), ql.f (k + 1) text ret h = ret Sl.nil (.iface 62 (.ptr (some ⟨p, 0⟩))) h') ∧ Ext h h' ∧ h.next≤p ∧ p < h'.next ∧ h'.get p = some (.cells [.int .i64 (m:Int), .int .i64 e] true):=by
 unfold zhr
 by_cases hl:262144 < text.length
 ·rw [if_pos hl]
  refine ⟨h.next, h.push (.cells [.int .i64 262144, .int .i64 2] true), fun α ret=>?_, (Ext.refl h).push _, Nat.le_refl _, by rw [zj]; omega, by rw [zk, if_pos rfl]; rfl⟩
  simp only [ql.f]
  unfold ql.u9.f ql.u1.f
  rw [show decide (262144 < (text.length:Int)) = true by simp; omega, cond_true, jk rfl]
 ·rw [if_neg hl]
  have d0:decide (262144 < (text.length:Int)) = false:=by simp; omega
  have start:∀ (α:Type) (ret:Sl->V->M α), ql.f (k + 1) text ret h = ql.u4.l k (fun y0 y1=>ret y0 (.iface 62 (.ptr (some y1)))) (fun y0 y1=>ql.u7.f k y0 y1 fun y0=>ret y0 .nilIface) k text Sl.nil 0 h:=by
   intro α ret
   simp only [ql.f]
   unfold ql.u9.f ql.u1.f
   rw [d0, cond_false]
   rfl
  have hal:=all_loop k text (by omega) (by omega) h k 0 [] Sl.nil h (Nat.zero_le _) (by omega) (Ext.refl h) (Row.nil h 4) (zah.nil h) (Nat.le_refl _)
  rw [znc text k (text.length + 1) 0 (Nat.zero_le _) (by omega) (by omega)] at hal
  cases hall:allF text (text.length + 1) 0 with
  | error me=>
   rw [hall] at hal
   obtain ⟨m, e⟩:=me
   obtain ⟨p, h', f1, f2⟩:=hal
   exact ⟨p, h', fun α ret=>(start α ret).trans (f1 α _ _), f2⟩
  | ok ts=>
   rw [hall] at hal
   obtain ⟨sl, h1, f1, f2, f3, f4, f5⟩:=hal
   simp only [List.nil_append, List.length_nil, Nat.zero_add] at f3 f5
   have hlen:=f3.len
   rw [zgs] at hlen
   have hend:jx (ts ++ [⟨0, text.length, [], 0⟩]) = jx ts ++ [.int .i64 0, .int .i64 text.length, .str [], .int .i64 0]:=by simp [jx, Tok.cells]
   obtain ⟨h2, a1, a2, a3, a4⟩:=zmc (bytes:=40) (h:=h1.push (.cells [.int .i64 0, .int .i64 text.length, .str [], .int .i64 0] true))
    (x:=⟨some ⟨h1.next, 0⟩, 1, 1, none⟩) (more:=[.int .i64 0, .int .i64 text.length, .str [], .int .i64 0]) (f3.ext ((Ext.refl h1).push _)) rfl
    (by rw [zct (cs:=[.int .i64 0, .int .i64 text.length, .str [], .int .i64 0]) (o:=true) (by rw [zk]; exact if_pos rfl) (by show 0 + 1 * 4≤4; omega)]; rfl) (Nat.succ_pos _) (by decide)
    (by show (sl.len + 1 + (sl.len + 1) / 4 + 512) * 40≤_; omega)
   refine ⟨_, h2, fun α ret=>?_, (f2.push _).app f4 a3 a4, by rw [hend]; exact a2, fun a ha=>?_, by simp; omega, by omega⟩
   ·refine (start α ret).trans ((f1 α _ _).trans ?_)
    unfold ql.u7.f
    rw [jk rfl]
    exact a1 α _
   ·cases ha
    have:=f2.1
    simp only [zj]; omega
theorem ziq (K:Bool->M α):asNil .nilIface K = K true:=rfl
theorem zjp (t:Nat) (v:V) (K:Bool->M α):asNil (.iface t v) K = K false:=rfl
end Go.Ab.S7
namespace Go.Ab.S7
def zeg (c:UInt8):Bool:=decide ((c.toNat:Int) = 32) || decide ((c.toNat:Int) = 9)
def zbv (c:UInt8):Bool:=decide ((c.toNat:Int) = 35)
inductive Sc (text:List UInt8):Nat->List Tok->Nat->Prop
 | nil {n:Nat}:n≤text.length->Sc text n [] n
 | blank {n m:Nat} {ts:List Tok} {c:UInt8}:text[n]? = some c->zeg c = true->Sc text (n + 1) ts m->Sc text n ts m
 | rem {n m:Nat} {ts:List Tok} {c:UInt8}:text[n]? = some c->zeg c = false->zbv c = true->Sc text (n + remF (text.drop n)) ts m->Sc text n ts m
 | tok {n m:Nat} {ts:List Tok} {c:UInt8}:text[n]? = some c->zeg c = false->zbv c = false->(tokF text n c).2 = 0->Sc text (n + (yr text n c).length) ts m->Sc text n ((tokF text n c).1 :: ts) m
theorem lt_of {text:List UInt8} {n:Nat} {c:UInt8} (hc:text[n]? = some c):n < text.length:=by
 rcases Nat.lt_or_ge n text.length with h | h
 ·exact h
 ·rw [List.getElem?_eq_none h] at hc; cases hc
theorem zgi {text:List UInt8} {f n:Nat} {c:UInt8} (hc:text[n]? = some c):allF text (f + 1) n =
  if zeg c then allF text f (n + 1) else if zbv c then allF text f (n + remF (text.drop n)) else
   if (tokF text n c).2 = 0 then (allF text f (n + (yr text n c).length)).map ((tokF text n c).1 :: ·) else .error (n, (tokF text n c).2):=by
 simp only [allF, hc, zih]
 by_cases h1:(c.toNat:Int) = 32 ∨ (c.toNat:Int) = 9
 ·have:zeg c = true:=by simp [zeg]; exact h1
  rw [if_pos h1, if_pos this]
 ·have:zeg c = false:=by
   simp only [zeg, Bool.or_eq_false_iff, decide_eq_false_iff_not]
   exact ⟨fun h=>h1 (.inl h), fun h=>h1 (.inr h)⟩
  rw [if_neg h1, this]
  simp only [Bool.false_eq_true, if_false]
  by_cases h2:(c.toNat:Int) = 35
  ·have:zbv c = true:=by simp [zbv]; exact h2
   rw [if_pos h2, if_pos this]
  ·have:zbv c = false:=by simp [zbv]; exact h2
   rw [if_neg h2, this]
   simp
theorem zkm {text:List UInt8} {n:Nat} {c:UInt8} (hc:text[n]? = some c) (h:zbv c = true):1≤remF (text.drop n) ∧ n + remF (text.drop n)≤text.length:=
 zoz hc (by simpa [zbv] using h)
structure Bad (text:List UInt8) (m:Nat) (e:Int):Prop where
 bad:∃ c, text[m]? = some c ∧ zeg c = false ∧ zbv c = false ∧ (tokF text m c).2 = e
 ne:e ≠ 0
theorem allF_sc {text:List UInt8}:∀ (f n:Nat), n≤text.length->text.length - n < f ->
  match allF text f n with
  | .ok ts=>Sc text n ts text.length
  | .error (m, e)=>∃ ts, Sc text n ts m ∧ Bad text m e:=by
 intro f
 induction f with
 | zero=>intro n hn hf; omega
 | succ f ih=>
  intro n hn hf
  cases hc:text[n]? with
  | none=>
   have hge:n = text.length:=by
    rcases Nat.lt_or_ge n text.length with h | h
    ·rw [List.getElem?_eq_getElem h] at hc; cases hc
    ·omega
   simp only [allF, hc]
   subst hge
   exact .nil (Nat.le_refl _)
  | some c=>
   have hlt:=lt_of hc
   rw [zgi hc]
   cases hb:zeg c with
   | true=>
    simp only [if_true]
    have:=ih (n + 1) hlt (by omega)
    cases h:allF text f (n + 1) with
    | ok ts=>rw [h] at this; exact .blank hc hb this
    | error me=>rw [h] at this; obtain ⟨ts, h1, h2⟩:=this; exact ⟨ts, .blank hc hb h1, h2⟩
   | false=>
    simp only [Bool.false_eq_true, if_false]
    cases hr:zbv c with
    | true=>
     simp only [if_true]
     obtain ⟨r1, r2⟩:=zkm hc hr
     have:=ih (n + remF (text.drop n)) r2 (by omega)
     cases h:allF text f (n + remF (text.drop n)) with
     | ok ts=>rw [h] at this; exact .rem hc hb hr this
     | error me=>rw [h] at this; obtain ⟨ts, h1, h2⟩:=this; exact ⟨ts, .rem hc hb hr h1, h2⟩
    | false=>
     simp only [Bool.false_eq_true, if_false]
     by_cases he:(tokF text n c).2 = 0
     ·rw [if_pos he]
      obtain ⟨w1, w2⟩:=zeu (c:=c) hlt
      have:=ih (n + (yr text n c).length) w2 (by omega)
      cases h:allF text f (n + (yr text n c).length) with
      | ok ts=>rw [h] at this; exact .tok hc hb hr he this
      | error me=>rw [h] at this; obtain ⟨ts, h1, h2⟩:=this; exact ⟨_, .tok hc hb hr he h1, h2⟩
     ·rw [if_neg he]
      exact ⟨[], .nil hn, ⟨⟨c, hc, hb, hr, rfl⟩, he⟩⟩
theorem Sc.le {text:List UInt8} {n m:Nat} {ts:List Tok} (s:Sc text n ts m):n≤m ∧ m≤text.length:=by
 induction s with
 | nil h=>exact ⟨Nat.le_refl _, h⟩
 | blank _ _ _ ih=>omega
 | rem _ _ _ _ ih=>omega
 | tok _ _ _ _ _ ih=>omega
theorem Sc.run {text:List UInt8} {n m:Nat} {ts:List Tok} (s:Sc text n ts m):∀ f g, text.length - n < f->text.length - m < g->allF text f n = (allF text g m).map (ts ++ ·):=by
 induction s with
 | nil h=>
  intro f g hf hg
  rw [znc text f g _ h hf hg]
  cases allF text g _ <;> rfl
 | blank hc hb s ih=>
  intro f g hf hg
  obtain ⟨f, rfl⟩:∃ q, f = q + 1:=⟨f - 1, by omega⟩
  have:=lt_of hc
  rw [zgi hc, if_pos hb]
  exact ih f g (by omega) hg
 | rem hc hb hr s ih=>
  intro f g hf hg
  obtain ⟨f, rfl⟩:∃ q, f = q + 1:=⟨f - 1, by omega⟩
  have:=lt_of hc
  obtain ⟨r1, r2⟩:=zkm hc hr
  rw [zgi hc, hb, hr]
  simp only [Bool.false_eq_true, if_false, if_true]
  exact ih f g (by omega) hg
 | tok hc hb hr he s ih=>
  intro f g hf hg
  obtain ⟨f, rfl⟩:∃ q, f = q + 1:=⟨f - 1, by omega⟩
  have hlt:=lt_of hc
  rename_i c
  obtain ⟨w1, w2⟩:=zeu (c:=c) hlt
  rw [zgi hc, hb, hr]
  simp only [Bool.false_eq_true, if_false]
  rw [if_pos he, ih f g (by omega) hg]
  cases allF text g _ <;> rfl
theorem allF_end (text:List UInt8) (g:Nat):allF text (g + 1) text.length = .ok []:=by
 have:text[text.length]? = none:=List.getElem?_eq_none (Nat.le_refl _)
 simp only [allF, this]
theorem Sc.ok {text:List UInt8} {ts:List Tok} (s:Sc text 0 ts text.length):allF text (text.length + 1) 0 = .ok ts:=by
 rw [s.run (text.length + 1) 1 (by omega) (by omega), allF_end]
 simp [Except.map]
theorem zdn (p:UInt8->Bool):∀ (l:List UInt8) (k:Nat), (l.take k).takeWhile p = (l.takeWhile p).take k
 | [], k=>by simp
 | b :: l, 0=>by simp
 | b :: l, k + 1=>by
  rw [List.take_succ_cons, List.takeWhile_cons, List.takeWhile_cons]
  cases p b
  ·simp
  ·simp [zdn p l k]
theorem zlt {text:List UInt8} {n q:Nat} {c:UInt8} (hc:text[n]? = some c) (hq:n < q):(text.take q)[n]? = some c:=by
 rw [List.getElem?_take_of_lt hq]; exact hc
theorem zsa (kd:Int) (l:List UInt8) (k:Nat) (hk:1≤k):zed kd (l.take k) = min (zed kd l) k:=by
 have h1:∀ p:UInt8->Bool, (((l.take k).drop 1).takeWhile p).length = min ((l.drop 1).takeWhile p).length (k - 1):=by
  intro p
  have:(l.take k).drop 1 = (l.drop 1).take (k - 1):=by rw [List.drop_take]
  rw [this, zdn, List.length_take]
  omega
 unfold zed
 split
 ·rw [h1]; omega
 ·split
  ·rw [h1]; omega
  ·omega
theorem zmi {text:List UInt8} {n q:Nat} {c:UInt8} (hq:n < q) (h:n + (yr text n c).length≤q) (hn:n < text.length):yr (text.take q) n c = yr text n c:=by
 have hw:(yr text n c).length = zed (yn c.toNat) (text.drop n):=by
  have h2:(text.drop n).length = text.length - n:=List.length_drop
  have:=zpu (yn c.toNat) (text.drop n) (by omega)
  unfold yr
  rw [List.length_take]
  omega
 have hd:(text.take q).drop n = (text.drop n).take (q - n):=by rw [List.drop_take]
 unfold yr at *
 rw [hd, zsa _ _ _ (by omega), List.take_take]
 congr 1
 omega
theorem tokF_take {text:List UInt8} {n q:Nat} {c:UInt8} (hq:n < q) (h:n + (yr text n c).length≤q) (hn:n < text.length):tokF (text.take q) n c = tokF text n c:=by
 unfold tokF
 rw [zmi hq h hn]
theorem remF_take {text:List UInt8} {n q:Nat} (h:n + remF (text.drop n)≤q):remF ((text.take q).drop n) = remF (text.drop n):=by
 have hd:(text.take q).drop n = (text.drop n).take (q - n):=by rw [List.drop_take]
 unfold remF at *
 rw [hd, zdn, List.length_take]
 omega
theorem Sc.cut {text:List UInt8} {n m:Nat} {ts:List Tok} (s:Sc text n ts m) (q:Nat) (hq:m≤q) (hq2:q≤text.length):Sc (text.take q) n ts m:=by
 induction s with
 | nil h=>exact .nil (by rw [List.length_take]; omega)
 | blank hc hb s ih=>
  have:=s.le
  exact .blank (zlt hc (by omega)) hb (ih hq)
 | rem hc hb hr s ih=>
  have:=s.le
  obtain ⟨r1, r2⟩:=zkm hc hr
  refine .rem (zlt hc (by omega)) hb hr ?_
  rw [remF_take (by omega)]
  exact ih hq
 | tok hc hb hr he s ih=>
  have:=s.le
  have hlt:=lt_of hc
  rename_i c
  obtain ⟨w1, w2⟩:=zeu (c:=c) hlt
  have hle:=s.le
  have e1:=tokF_take (text:=text) (c:=c) (show _ < q by omega) (by omega) hlt
  have e2:=zmi (text:=text) (c:=c) (show _ < q by omega) (by omega) hlt
  rw [← e1]
  refine .tok (zlt hc (by omega)) hb hr (by rw [e1]; exact he) ?_
  rw [e2]
  exact ih hq
theorem zqm (text:List UInt8):(262144 < text.length ∧ zhr text = .error (262144, 2)) ∨
  (text.length≤262144 ∧ ∃ ts, Sc text 0 ts text.length ∧ zhr text = .ok (ts ++ [⟨0, text.length, [], 0⟩])) ∨
  (text.length≤262144 ∧ ∃ m e ts, Sc text 0 ts m ∧ Bad text m e ∧ zhr text = .error (m, e)):=by
 unfold zhr
 by_cases hl:262144 < text.length
 ·exact .inl ⟨hl, if_pos hl⟩
 ·rw [if_neg hl]
  have:=allF_sc (text:=text) (text.length + 1) 0 (Nat.zero_le _) (by omega)
  cases h:allF text (text.length + 1) 0 with
  | ok ts=>rw [h] at this; exact .inr (.inl ⟨by omega, ts, this, rfl⟩)
  | error me=>
   rw [h] at this
   obtain ⟨m, e⟩:=me
   obtain ⟨ts, h1, h2⟩:=this
   exact .inr (.inr ⟨by omega, m, e, ts, h1, h2, rfl⟩)
end Go.Ab.S7
namespace Go.Ab.S7
variable {α:Type} {h:H}
theorem dT {p:Prop} [Decidable p] (h:p):decide p = true:=decide_eq_true h
theorem dF {p:Prop} [Decidable p] (h:¬ p):decide p = false:=decide_eq_false h
theorem cT {β:Type} {c:Bool} {a b:β} (h:c = true):cond c a b = a:=by subst h; rfl
theorem cF {β:Type} {c:Bool} {a b:β} (h:c = false):cond c a b = b:=by subst h; rfl
structure Nd where
 kind:Int
 a:Int
 b:Int
 name:List UInt8
 pos:Int
 deriving DecidableEq, Inhabited
def Nd.cells (n:Nd):List V:=[.int .i64 n.kind, .int .i64 n.a, .int .i64 n.b, .str n.name, .int .i64 n.pos]
theorem Nd.len (n:Nd):n.cells.length = 5:=rfl
abbrev cN (l:List Nd):List V:=l.flatMap Nd.cells
abbrev NdR (h:H) (s:Sl) (l:List Nd):Prop:=Rd h s 5 (cN l)
theorem jv {s:Sl} {l:List Nd} (r:NdR h s l):s.len = l.length:=slen Nd.len (by decide) r
theorem zcw {s:Sl} {l:List Nd} (r:NdR h s l) {i:Nat} {n:Nd} (hi:l[i]? = some n) {j:Nat} {v:V} (hv:n.cells[j]? = some v) (hj:j < 5):(cN l)[i * 5 + j]? = some v:=
 (zcn Nd.len l i n j hi hj).trans hv
theorem zgw {s:Sl} {l:List Nd} (r:NdR h s l) {x:Int} {i:Nat} {n:Nd} (hx:x = (i:Int)) (hi:l[i]? = some n) (K:Ad->M α):idxSl s x 5 K h = K (s.at (i * 5)) h:=
 zcy r hx (by rw [jv r]; exact yu hi) K
theorem zam {s:Sl} {l:List Nd} (r:NdR h s l) {x:Int} {i:Nat} {n:Nd} (hx:x = (i:Int)) (hi:l[i]? = some n) (K:Int->M α):idxSl s x 5 (fun a=>ldI .i64 ((a.add 0).add 0) K) h = K n.kind h:=by
 rw [zgw r hx hi, yl, yl]; exact r.ldI (zcw r hi (j:=0) rfl (by decide)) K
theorem nd_a {s:Sl} {l:List Nd} (r:NdR h s l) {x:Int} {i:Nat} {n:Nd} (hx:x = (i:Int)) (hi:l[i]? = some n) (K:Int->M α):idxSl s x 5 (fun a=>ldI .i64 ((a.add 1).add 0) K) h = K n.a h:=by
 rw [zgw r hx hi, yl, yl]; exact r.ldI (zcw r hi (j:=1) rfl (by decide)) K
theorem nd_b {s:Sl} {l:List Nd} (r:NdR h s l) {x:Int} {i:Nat} {n:Nd} (hx:x = (i:Int)) (hi:l[i]? = some n) (K:Int->M α):idxSl s x 5 (fun a=>ldI .i64 ((a.add 2).add 0) K) h = K n.b h:=by
 rw [zgw r hx hi, yl, yl]; exact r.ldI (zcw r hi (j:=2) rfl (by decide)) K
theorem zdd {s:Sl} {l:List Nd} (r:NdR h s l) {x:Int} {i:Nat} {n:Nd} (hx:x = (i:Int)) (hi:l[i]? = some n) (K:List UInt8->M α):idxSl s x 5 (fun a=>ldStr ((a.add 3).add 0) K) h = K n.name h:=by
 rw [zgw r hx hi, yl, yl]; exact r.ldStr (zcw r hi (j:=3) rfl (by decide)) K
theorem zcv {s:Sl} {l:List Nd} (r:NdR h s l) {x:Int} {i:Nat} {n:Nd} (hx:x = (i:Int)) (hi:l[i]? = some n) (K:Int->Int->Int->List UInt8->Int->M α) :
  idxSl s x 5 (fun a=>ldI .i64 (a.add 0) fun x0=>ldI .i64 (a.add 1) fun x1=>ldI .i64 (a.add 2) fun x2=>ldStr (a.add 3) fun x3=>ldI .i64 (a.add 4) fun x4=>K x0 x1 x2 x3 x4) h = K n.kind n.a n.b n.name n.pos h:=by
 rw [zgw r hx hi]
 simp only [yl]
 rw [r.ldI (zcw r hi (j:=0) rfl (by decide)), r.ldI (zcw r hi (j:=1) rfl (by decide)), r.ldI (zcw r hi (j:=2) rfl (by decide)), r.ldStr (zcw r hi (j:=3) rfl (by decide)), r.ldI (zcw r hi (j:=4) rfl (by decide))]
theorem zeb {x0 x1 x2 x4:Int} {x3:List UInt8} {z0 z1 z2 z4:Int} {z3:List UInt8} (K:Ad->M α) :
  new [.int .i64 z0, .int .i64 z1, .int .i64 z2, .str z3, .int .i64 z4] (fun n=>st1 (n.add 0) (.int .i64 x0) <| st1 (n.add 1) (.int .i64 x1) <| st1 (n.add 2) (.int .i64 x2) <| st1 (n.add 3) (.str x3) <| st1 (n.add 4) (.int .i64 x4) <| K n) h =
   K ⟨h.next, 0⟩ (h.push (.cells [.int .i64 x0, .int .i64 x1, .int .i64 x2, .str x3, .int .i64 x4] true)):=by
 rw [jk rfl]
 simp only [jg, Nat.zero_add]
 rw [yc rfl (by simp), yc rfl (by simp), yc rfl (by simp), yc rfl (by simp), yc rfl (by simp)]
 rfl
theorem n5_0 {x0 x1 x2 x4:Int} {x3:List UInt8} (o:Bool) (K:Int->M α):ldI .i64 (((⟨h.next, 0⟩:Ad).add 0).add 0) K (h.push (.cells [.int .i64 x0, .int .i64 x1, .int .i64 x2, .str x3, .int .i64 x4] o)) = K x0 (h.push (.cells [.int .i64 x0, .int .i64 x1, .int .i64 x2, .str x3, .int .i64 x4] o)):=jn (by simp only [jg]; rw [yb]; rfl)
theorem n5_3 {x0 x1 x2 x4:Int} {x3:List UInt8} (o:Bool) (K:List UInt8->M α):ldStr (((⟨h.next, 0⟩:Ad).add 3).add 0) K (h.push (.cells [.int .i64 x0, .int .i64 x1, .int .i64 x2, .str x3, .int .i64 x4] o)) = K x3 (h.push (.cells [.int .i64 x0, .int .i64 x1, .int .i64 x2, .str x3, .int .i64 x4] o)):=zad (by simp only [jg]; rw [yb]; rfl)
theorem n5_all {x0 x1 x2 x4:Int} {x3:List UInt8} (o:Bool) (K:Int->Int->Int->List UInt8->Int->M α) :
  (ldI .i64 ((⟨h.next, 0⟩:Ad).add 0) fun y0=>ldI .i64 ((⟨h.next, 0⟩:Ad).add 1) fun y1=>ldI .i64 ((⟨h.next, 0⟩:Ad).add 2) fun y2=>ldStr ((⟨h.next, 0⟩:Ad).add 3) fun y3=>ldI .i64 ((⟨h.next, 0⟩:Ad).add 4) fun y4=>K y0 y1 y2 y3 y4) (h.push (.cells [.int .i64 x0, .int .i64 x1, .int .i64 x2, .str x3, .int .i64 x4] o)) =
   K x0 x1 x2 x3 x4 (h.push (.cells [.int .i64 x0, .int .i64 x1, .int .i64 x2, .str x3, .int .i64 x4] o)):=by
 simp only [jg]
 rw [jn (by rw [yb]; rfl), jn (by rw [yb]; rfl), jn (by rw [yb]; rfl), zad (by rw [yb]; rfl), jn (by rw [yb]; rfl)]
def zei (lo hi:Int):List UInt8->Bool
 | []=>false
 | c :: r=>decide (r.length < 8) && decide (lo≤(c.toNat:Int)) && decide ((c.toNat:Int)≤hi) && (c :: r).all zbt
def zdw (s:List UInt8):Bool:=decide (s = [116, 116]) || decide (s = [102, 102]) || decide (s = [109, 117]) || decide (s = [110, 117])
def zkn (s:List UInt8):Bool:=zei 97 122 s && !zdw s
def varF (s:List UInt8):Bool:=zei 65 90 s
theorem zry:∀ n:Nat, n < 256->(zbt (UInt8.ofNat n)) = ((!decide (bits .or .u8 (n:Int) 32 < 97) && !decide (122 < bits .or .u8 (n:Int) 32)) || ((!decide ((n:Int) < 48) && !decide (57 < (n:Int))) || decide ((n:Int) = 95))):=by
 decide +kernel
theorem u8_nat (c:UInt8):UInt8.ofNat c.toNat = c:=by simp
theorem zsd (k:Nat) {s:List UInt8} (hs:s.length≤8):∀ (j n:Nat), n≤s.length->s.length - n < j->∀ (kr:Bool->M α) (kx:M α),
  qz.u4.l k kr kx j s (s.length:Int) (n:Int) h = if (s.drop n).all zbt then kx h else kr false h:=by
 intro j
 induction j with
 | zero=>intro n hn hj; omega
 | succ j ih=>
  intro n hn hj kr kx
  rw [qz.u4.l, qz.u3.f]
  by_cases hlt:n < s.length
  ·have hc:s[n]? = some s[n]:=List.getElem?_eq_getElem hlt
   rw [show decide ((n:Int) < (s.length:Int)) = true by simpa using hlt, cond_true, yd rfl hc, zhh hlt, List.all_cons]
   have hb:=zry s[n].toNat s[n].toNat_lt
   rw [u8_nat] at hb
   have next:=ih (n + 1) (by omega) (by omega) kr kx
   rw [zw (by omega) (by omega), show ((n:Int) + 1) = ((n + 1:Nat):Int) by omega]
   rw [hb]
   generalize decide (bits .or .u8 (s[n].toNat:Int) 32 < 97) = b1
   generalize decide (122 < bits .or .u8 (s[n].toNat:Int) 32) = b2
   generalize decide ((s[n].toNat:Int) < 48) = b3
   generalize decide (57 < (s[n].toNat:Int)) = b4
   generalize decide ((s[n].toNat:Int) = 95) = b5
   cases b1 <;> cases b2 <;> cases b3 <;> cases b4 <;> cases b5 <;> first | exact next | rfl
  ·rw [show decide ((n:Int) < (s.length:Int)) = false by simpa using hlt, cond_false, List.drop_of_length_le (by omega)]
   simp
theorem znh (k:Nat) (hk:10≤k) (s:List UInt8) (lo hi:Int) (ret:Bool->M α):qz.f (k + 1) s lo hi ret h = ret (zei lo hi s) h:=by
 simp only [qz.f]
 unfold qz.u9.f qz.u1.f
 cases s with
 | nil=>simp [zei]
 | cons c r=>
  have hc:(c :: r)[0]? = some c:=rfl
  rw [show decide (((c :: r).length:Int) < 1) = false by simp; omega, cond_false]
  simp only [zei]
  by_cases h8:r.length < 8
  ·rw [show decide (8 < ((c :: r).length:Int)) = false by simp; omega, cond_false, yd (i:=0) (n:=0) rfl hc, decide_eq_true h8]
   by_cases h1:lo≤(c.toNat:Int)
   ·rw [show decide ((c.toNat:Int) < lo) = false by simpa using h1, cond_false, yd (i:=0) (n:=0) rfl hc, decide_eq_true h1]
    by_cases h2:(c.toNat:Int)≤hi
    ·rw [show decide (hi < (c.toNat:Int)) = false by simpa using h2, cond_false, decide_eq_true h2]
     unfold qz.u8.f qz.u6.f qz.u2.f qz.u5.f qz.u4.f
     refine (zsd k (s:=c :: r) (by simp; omega) k 0 (Nat.zero_le _) (by simp; omega) _ _).trans ?_
     rw [List.drop_zero]
     cases (c :: r).all zbt <;> rfl
    ·rw [dT (by omega:hi < (c.toNat:Int)), dF h2]; rfl
   ·rw [dT (by omega:(c.toNat:Int) < lo), dF h1]; rfl
  ·simp [h8]
   rw [show decide (8 < (r.length:Int) + 1) = true by simp; omega, cond_true]
theorem zmg (k:Nat) (s:List UInt8) (ret:Bool->M α):qbf.f (k + 1) s ret h = ret (zdw s) h:=by
 simp only [qbf.f]
 unfold qbf.u1.f zdw
 generalize decide (s = [116, 116]) = b1
 generalize decide (s = [102, 102]) = b2
 generalize decide (s = [109, 117]) = b3
 generalize decide (s = [110, 117]) = b4
 cases b1 <;> cases b2 <;> cases b3 <;> rfl
theorem znm (k:Nat) (hk:11≤k) (s:List UInt8) (ret:Bool->M α):qax.f (k + 1) s ret h = ret (zkn s) h:=by
 obtain ⟨k, rfl⟩:∃ q, k = q + 1:=⟨k - 1, by omega⟩
 simp only [qax.f]
 unfold qax.u1.f zkn
 rw [znh k (by omega)]
 cases zei 97 122 s
 ·rfl
 ·rw [cond_true, zmg]; rfl
theorem svar_run (k:Nat) (hk:11≤k) (s:List UInt8) (ret:Bool->M α):qam.f (k + 1) s ret h = ret (varF s) h:=by
 obtain ⟨k, rfl⟩:∃ q, k = q + 1:=⟨k - 1, by omega⟩
 simp only [qam.f]
 unfold qam.u1.f varF
 rw [znh k (by omega)]
theorem zfn (c:UInt8):zbt c = ((decide (97≤(c.toNat:Int)) && decide ((c.toNat:Int)≤122)) || ((decide (65≤(c.toNat:Int)) && decide ((c.toNat:Int)≤90)) || ((decide (48≤(c.toNat:Int)) && decide ((c.toNat:Int)≤57)) || decide ((c.toNat:Int) = 95)))):=by
 rw [Bool.eq_iff_iff]
 simp only [zbt, zbe, Bool.or_eq_true, Bool.and_eq_true, decide_eq_true_eq]
 omega
theorem zrv (k:Nat) {s:List UInt8} (hs:s.length≤8):∀ (j n:Nat), n≤s.length->s.length - n < j->∀ (kr:Bool->M α) (kx:M α),
  qj.u9.l k kr kx j s (n:Int) h = if (s.drop n).all zbt then kx h else kr false h:=by
 intro j
 induction j with
 | zero=>intro n hn hj; omega
 | succ j ih=>
  intro n hn hj kr kx
  rw [qj.u9.l]
  unfold qj.u8.f qj.u3.f
  by_cases hlt:n < s.length
  ·have hc:s[n]? = some s[n]:=List.getElem?_eq_getElem hlt
   unfold qj.u7.f qj.u5.f qj.u4.f qj.u6.f
   dsimp only
   rw [show decide ((n:Int) < (s.length:Int)) = true by simpa using hlt, cond_true, yd rfl hc, zhh hlt, List.all_cons]
   have next:=ih (n + 1) (by omega) (by omega) kr kx
   rw [zw (by omega) (by omega), show ((n:Int) + 1) = ((n + 1:Nat):Int) by omega, zfn]
   generalize decide (97≤(s[n].toNat:Int)) = b1
   generalize decide ((s[n].toNat:Int)≤122) = b2
   generalize decide (65≤(s[n].toNat:Int)) = b3
   generalize decide ((s[n].toNat:Int)≤90) = b4
   generalize decide (48≤(s[n].toNat:Int)) = b5
   generalize decide ((s[n].toNat:Int)≤57) = b6
   generalize decide ((s[n].toNat:Int) = 95) = b7
   cases b1 <;> cases b2 <;> cases b3 <;> cases b4 <;> cases b5 <;> cases b6 <;> cases b7 <;> first | exact next | rfl
  ·rw [show decide ((n:Int) < (s.length:Int)) = false by simpa using hlt, cond_false, List.drop_of_length_le (by omega)]
   simp
theorem zil (k:Nat) (hk:10≤k) (s:List UInt8) (ret:Bool->M α):qj.f (k + 1) s ret h = ret (zkn s) h:=by
 simp only [qj.f]
 unfold qj.u14.f qj.u1.f zkn
 cases s with
 | nil=>simp [zei]
 | cons c r=>
  have hc:(c :: r)[0]? = some c:=rfl
  rw [show decide (((c :: r).length:Int) < 1) = false by simp; omega, cond_false]
  simp only [zei]
  by_cases h8:r.length < 8
  ·rw [show decide (8 < ((c :: r).length:Int)) = false by simp; omega, cond_false, yd (i:=0) (n:=0) rfl hc, decide_eq_true h8]
   by_cases h1:97≤(c.toNat:Int)
   ·rw [show decide ((c.toNat:Int) < 97) = false by simpa using h1, cond_false, yd (i:=0) (n:=0) rfl hc, decide_eq_true h1]
    by_cases h2:(c.toNat:Int)≤122
    ·rw [show decide (122 < (c.toNat:Int)) = false by simpa using h2, cond_false, decide_eq_true h2]
     unfold qj.u13.f qj.u11.f qj.u2.f qj.u10.f qj.u9.f qj.u12.f
     have lp:=zrv (h:=h) k (s:=c :: r) (by simp; omega) k 0 (Nat.zero_le _) (by simp; omega) ret (ret true)
     rw [List.drop_zero] at lp
     simp only [zdw]
     generalize decide (c :: r = [116, 116]) = b1
     generalize decide (c :: r = [102, 102]) = b2
     generalize decide (c :: r = [109, 117]) = b3
     generalize decide (c :: r = [110, 117]) = b4
     generalize (c :: r).all zbt = q at lp
     cases b1 <;> cases b2 <;> cases b3 <;> cases b4 <;> cases q <;> first | exact lp | rfl
    ·rw [dT (by omega:122 < (c.toNat:Int)), dF h2]; rfl
   ·rw [dT (by omega:(c.toNat:Int) < 97), dF h1]; rfl
  ·simp [h8]
   rw [show decide (8 < (r.length:Int) + 1) = true by simp; omega, cond_true]
theorem rvar_run (k:Nat) (hk:11≤k) (s:List UInt8) (ret:Bool->M α) (hl:s.length≤4611686018427387900):qbd.f (k + 1) s ret h = ret (varF s) h:=by
 obtain ⟨k, rfl⟩:∃ q, k = q + 1:=⟨k - 1, by omega⟩
 simp only [qbd.f]
 unfold qbd.u1.f varF
 cases s with
 | nil=>rfl
 | cons c r=>
  have hc:(c :: r)[0]? = some c:=rfl
  rw [show decide (((c :: r).length:Int) < 1) = false by simp; omega, cond_false, yd (i:=0) (n:=0) rfl hc]
  simp only [zei]
  by_cases h1:65≤(c.toNat:Int)
  ·rw [dF (by omega:¬ (c.toNat:Int) < 65), cond_false, yd (i:=0) (n:=0) rfl hc]
   by_cases h2:(c.toNat:Int)≤90
   ·rw [dF (by omega:¬ 90 < (c.toNat:Int)), cond_false, zfr (x:=1) (n:=1) rfl (by simp)]
    unfold cat
    rw [jc (Nat.ble_eq_true_of_le (by simp at hl ⊢; omega))]
    dsimp only
    rw [zil k (by omega)]
    congr 1
    have hi:zbt c = true:=by rw [zfn]; simp only [Bool.or_eq_true, Bool.and_eq_true, decide_eq_true_eq]; omega
    have hw:zdw ([97] ++ List.drop 1 (c :: r)) = false:=by
     simp [zdw]
    unfold zkn
    rw [hw]
    simp only [List.cons_append, List.nil_append, List.drop_succ_cons, List.drop_zero, zei, List.all_cons, hi, h1, h2, decide_true]
    simp [zfn]
   ·rw [dT (by omega:90 < (c.toNat:Int)), dF h2]; simp
  ·rw [dT (by omega:(c.toNat:Int) < 65), dF h1]; simp
def arF (k:Int):Int:=if k = 1 ∨ k = 2 ∨ k = 3 ∨ k = 4 then 0 else if k = 5 ∨ k = 8 ∨ k = 9 ∨ k = 10 ∨ k = 11 then 1 else if k = 6 ∨ k = 7 then 2 else -1
def yz (k:Int) (s:List UInt8):Bool:=if k = 3 then zkn s else if k = 4 ∨ k = 10 ∨ k = 11 then varF s else if k = 8 ∨ k = 9 then decide (s = [45]) || zkn s else decide (s = [])
theorem kinds (k:Int):k = 1 ∨ k = 2 ∨ k = 3 ∨ k = 4 ∨ k = 5 ∨ k = 6 ∨ k = 7 ∨ k = 8 ∨ k = 9 ∨ k = 10 ∨ k = 11 ∨ (k ≠ 1 ∧ k ≠ 2 ∧ k ≠ 3 ∧ k ≠ 4 ∧ k ≠ 5 ∧ k ≠ 6 ∧ k ≠ 7 ∧ k ≠ 8 ∧ k ≠ 9 ∧ k ≠ 10 ∧ k ≠ 11):=by omega
theorem zcg (k:Nat) (x:Int) (ret:Int->M α):qbb.f (k + 1) x ret h = ret (arF x) h:=by
 simp only [qbb.f]
 unfold qbb.u1.f arF
 rcases kinds x with rfl | rfl | rfl | rfl | rfl | rfl | rfl | rfl | rfl | rfl | rfl | ⟨h1, h2, h3, h4, h5, h6, h7, h8, h9, h10, h11⟩
 case inr.inr.inr.inr.inr.inr.inr.inr.inr.inr.inr=>simp only [↓cF, h1, h2, h3, h4, h5, h6, h7, h8, h9, h10, h11, decide_false, or_false, if_false]
 all_goals simp only [↓cT, ↓cF, Int.reduceEq, decide_true, decide_false, true_or, or_true, or_false, false_or, if_true, if_false]
theorem zre (k:Nat) (hk:12≤k) (x a b p:Int) (s:List UInt8) (hl:s.length≤4611686018427387900) (ret:Bool->M α):qbo.f (k + 1) x a b s p ret h = ret (yz x s) (h.push (.cells [.int .i64 x, .int .i64 a, .int .i64 b, .str s, .int .i64 p] true)):=by
 obtain ⟨k, rfl⟩:∃ q, k = q + 1:=⟨k - 1, by omega⟩
 simp only [qbo.f]
 unfold qbo.u1.f yz
 rw [jk rfl, n5_0]
 rcases kinds x with rfl | rfl | rfl | rfl | rfl | rfl | rfl | rfl | rfl | rfl | rfl | ⟨h1, h2, h3, h4, h5, h6, h7, h8, h9, h10, h11⟩
 case inr.inr.inr.inr.inr.inr.inr.inr.inr.inr.inr=>simp only [↓cF, h1, h2, h3, h4, h5, h6, h7, h8, h9, h10, h11, decide_false, or_false, if_false, n5_3]
 all_goals simp only [↓cT, ↓cF, Int.reduceEq, decide_true, decide_false, true_or, or_true, or_false, false_or, if_true, if_false, n5_3, zil k (by omega), rvar_run k (by omega) s _ hl]
 all_goals (cases decide (s = [45]) <;> simp only [cond_true, cond_false, n5_3, zil k (by omega), Bool.true_or, Bool.false_or])
def belF (k:Int):Int:=if arF k = -1 then 0 else arF k
theorem below_run (k:Nat) (hk:12≤k) (x a b p:Int) (s:List UInt8) (ret:Int->Bool->M α) :
  qbl.f (k + 1) x a b s p ret h = ret (belF x) (decide (0≤arF x) && yz x s) (h.push (.cells [.int .i64 x, .int .i64 a, .int .i64 b, .str s, .int .i64 p] true)):=by
 obtain ⟨k, rfl⟩:∃ q, k = q + 1:=⟨k - 1, by omega⟩
 simp only [qbl.f]
 unfold qbl.u1.f belF arF yz
 rw [jk rfl, n5_0]
 rcases kinds x with rfl | rfl | rfl | rfl | rfl | rfl | rfl | rfl | rfl | rfl | rfl | ⟨h1, h2, h3, h4, h5, h6, h7, h8, h9, h10, h11⟩
 case inr.inr.inr.inr.inr.inr.inr.inr.inr.inr.inr=>simp only [↓cF, h1, h2, h3, h4, h5, h6, h7, h8, h9, h10, h11, decide_false, or_false, if_false, n5_3]; rfl
 all_goals simp only [↓cT, ↓cF, Int.reduceEq, Int.reduceLE, decide_true, decide_false, true_or, or_true, or_false, false_or, if_true, if_false, n5_3, znm k (by omega), svar_run k (by omega), Bool.true_and, Int.reduceNeg]
 all_goals (cases decide (s = [45]) <;> simp only [cond_true, cond_false, n5_3, znm k (by omega), Bool.true_or, Bool.false_or])
end Go.Ab.S7
