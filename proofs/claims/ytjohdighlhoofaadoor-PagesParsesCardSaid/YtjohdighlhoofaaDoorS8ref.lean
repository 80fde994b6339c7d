import Derived.Test.YtjohdighlhoofaaDoorS8gr
set_option linter.unusedVariables false
set_option linter.unusedSimpArgs false
namespace Go.Ab.S8
theorem numF_lt (s:List UInt8) (hd:∀ b ∈ s, jx b = true):0≤numF s ∧ numF s < 10 ^ s.length:=by
 have:=zbz s 0 hd (Int.le_refl _)
 unfold numF
 simpa using this
theorem numF_ge (c:UInt8) (r:List UInt8) (hd:∀ b ∈ c :: r, jx b = true) (hc:c ≠ 48):10 ^ r.length≤numF (c :: r):=by
 have h1:=hd c List.mem_cons_self
 simp only [jx, Bool.and_eq_true, decide_eq_true_eq] at h1
 have h2:c.toNat ≠ 48:=fun h=>hc (UInt8.toNat_inj.1 h)
 have:=(zbz r ((c.toNat:Int) - 48) (fun b hb=>hd b (List.mem_cons_of_mem _ hb)) (by omega)).1
 have e:numF (c :: r) = r.foldl (fun n b=>10 * n + ((b.toNat:Int) - 48)) ((c.toNat:Int) - 48):=by
  unfold numF
  rw [List.foldl_cons]
  congr 1
  omega
 rw [e]
 refine Int.le_trans ?_ this
 have hp:(0:Int)≤10 ^ r.length:=Int.pow_nonneg (by decide)
 calc (10:Int) ^ r.length = 1 * 10 ^ r.length:=by rw [Int.one_mul]
  _≤_:=Int.mul_le_mul_of_nonneg_right (by omega) hp
theorem zbh {α:Type} {h:H} (k:Nat) (c:Int) (ret:Bool->M α):qak.f (k + 1) c ret h = ret (decide (97≤c ∧ c≤122)) h:=by
 simp only [qak.f]
 unfold qak.u1.f
 by_cases a:97≤c <;> simp [a]
theorem zai {α:Type} {h:H} (k:Nat) (c:Int) (ret:Bool->M α):qaj.f (k + 1) c ret h = ret (decide (65≤c ∧ c≤90)) h:=by
 simp only [qaj.f]
 unfold qaj.u1.f
 by_cases a:65≤c <;> simp [a]
theorem zax {α:Type} {h:H} (k:Nat) (c:Int) (ret:Bool->M α):qai.f (k + 1) c ret h = ret (decide (48≤c ∧ c≤57)) h:=by
 simp only [qai.f]
 unfold qai.u1.f
 by_cases a:48≤c <;> simp [a]
theorem inner_run {α:Type} {h:H} (k:Nat) (b:UInt8) (ret:Bool->M α):qan.f (k + 2) (b.toNat:Int) ret h = ret (yg b) h:=by
 simp only [qan.f]
 unfold qan.u1.f
 rw [zbh, zai, zax]
 have e:yg b = (decide (97≤(b.toNat:Int) ∧ (b.toNat:Int)≤122) || decide (65≤(b.toNat:Int) ∧ (b.toNat:Int)≤90) || decide (48≤(b.toNat:Int) ∧ (b.toNat:Int)≤57) || decide ((b.toNat:Int) = 95)):=by
  rw [Bool.eq_iff_iff]
  simp only [yg, jx, Bool.or_eq_true, Bool.and_eq_true, decide_eq_true_eq]
  omega
 rw [e]
 generalize decide (97≤(b.toNat:Int) ∧ (b.toNat:Int)≤122) = d1
 generalize decide (65≤(b.toNat:Int) ∧ (b.toNat:Int)≤90) = d2
 generalize decide (48≤(b.toNat:Int) ∧ (b.toNat:Int)≤57) = d3
 generalize decide ((b.toNat:Int) = 95) = d4
 cases d1 <;> cases d2 <;> cases d3 <;> rfl
theorem name_loop (k:Nat) (hk:2≤k) {text:List UInt8} (hl:text.length≤262144) {h:H}:∀ (f n:Nat), n≤text.length->text.length - n < f->∀ (α:Type) (kx:Int->M α),
  qr.u3.l k kx f text (n:Int) h = kx ((n + ((text.drop n).takeWhile yg).length:Nat):Int) h:=by
 obtain ⟨k, rfl⟩:∃ q, k = q + 2:=⟨k - 2, by omega⟩
 intro f
 induction f with
 | zero=>intro n hn hf; omega
 | succ f ih=>
  intro n hn hf α kx
  rw [qr.u3.l, qr.u2.f]
  by_cases hlt:n < text.length
  ·have hc:text[n]? = some text[n]:=List.getElem?_eq_getElem hlt
   rw [show decide ((n:Int) < (text.length:Int)) = true by simpa using hlt, cond_true, jf rfl hc, inner_run, zdx hlt, List.takeWhile_cons]
   cases hi:yg text[n] with
   | true=>
    rw [Bool.not_true, cond_false, jn (by omega) (by omega), show ((n:Int) + 1) = ((n + 1:Nat):Int) by omega, ih (n + 1) (by omega) (by omega)]
    simp only [if_true, List.length_cons]
    rw [show n + 1 + (List.takeWhile yg (List.drop (n + 1) text)).length = n + ((List.takeWhile yg (List.drop (n + 1) text)).length + 1) by omega]
   | false=>
    rw [Bool.not_false, cond_true]
    simp
  ·rw [show decide ((n:Int) < (text.length:Int)) = false by simpa using hlt, cond_false, List.drop_of_length_le (by omega)]
   simp
theorem zne {α:Type} {h:H} (k:Nat) {text:List UInt8} (hl:text.length≤262144) (hk:text.length + 3≤k) {n:Nat} (hn:n≤text.length) (ret:Int->M α) :
  qr.f (k + 1) text (n:Int) ret h = ret ((n + ((text.drop n).takeWhile yg).length:Nat):Int) h:=by
 simp only [qr.f]
 unfold qr.u7.f qr.u1.f qr.u6.f qr.u4.f qr.u3.f qr.u5.f
 exact name_loop k (by omega) hl k n hn (by omega) α _
def capF (v:Int) (s:List UInt8):Int:=s.foldl (fun n b=>if 10000 < 10 * n + ((b.toNat:Int) - 48) then 10000 else 10 * n + ((b.toNat:Int) - 48)) v
theorem zmy (k:Nat) (hk:2≤k) {text:List UInt8} (hl:text.length≤262144) {h:H}:∀ (f n:Nat) (v:Int), 0≤v->v≤10000->n≤text.length->text.length - n < f->∀ (α:Type) (kx:Int->Int->M α),
  qs.u3.l k kx f text (n:Int) v h = kx ((n + ((text.drop n).takeWhile jx).length:Nat):Int) (capF v ((text.drop n).takeWhile jx)) h:=by
 obtain ⟨k, rfl⟩:∃ q, k = q + 1:=⟨k - 1, by omega⟩
 intro f
 induction f with
 | zero=>intro n v h0 h1 hn hf; omega
 | succ f ih=>
  intro n v h0 h1 hn hf α kx
  rw [qs.u3.l, qs.u2.f]
  by_cases hlt:n < text.length
  ·have hc:text[n]? = some text[n]:=List.getElem?_eq_getElem hlt
   have hdd:jx text[n] = decide (48≤(text[n].toNat:Int) ∧ (text[n].toNat:Int)≤57):=by unfold jx; rw [← Bool.decide_and]
   rw [show decide ((n:Int) < (text.length:Int)) = true by simpa using hlt, cond_true, jf rfl hc, zax, ← hdd, zdx hlt, List.takeWhile_cons]
   cases hi:jx text[n] with
   | true=>
    rw [hdd] at hi
    have hi':=of_decide_eq_true hi
    have e1:IntKind.wrap .u8 ((text[n].toNat:Int) - 48) = (text[n].toNat:Int) - 48:=by
     rw [IntKind.wrap_u8']; omega
    have e2:w64 ((w64 (10 * v)) + (w64 ((text[n].toNat:Int) - 48))) = 10 * v + ((text[n].toNat:Int) - 48):=by
     rw [jn (n:=10 * v) (by omega) (by omega), jn (n:=(text[n].toNat:Int) - 48) (by omega) (by omega), jn (by omega) (by omega)]
    rw [Bool.not_true, cond_false, jf rfl hc, e1, e2, jn (by omega) (by omega), show ((n:Int) + 1) = ((n + 1:Nat):Int) by omega]
    rw [ih (n + 1) _ (by split <;> omega) (by split <;> omega) (by omega) (by omega)]
    simp only [if_true, List.length_cons]
    rw [show n + 1 + (List.takeWhile jx (List.drop (n + 1) text)).length = n + ((List.takeWhile jx (List.drop (n + 1) text)).length + 1) by omega]
    rfl
   | false=>
    rw [Bool.not_false, cond_true]
    simp [capF]
  ·rw [show decide ((n:Int) < (text.length:Int)) = false by simpa using hlt, cond_false, List.drop_of_length_le (by omega)]
   simp [capF]
theorem zno {α:Type} {h:H} (k:Nat) {text:List UInt8} (hl:text.length≤262144) (hk:text.length + 3≤k) {n:Nat} (hn:n≤text.length) (ret:Int->Int->M α) :
  qs.f (k + 1) text (n:Int) ret h = ret ((n + ((text.drop n).takeWhile jx).length:Nat):Int) (capF 0 ((text.drop n).takeWhile jx)) h:=by
 simp only [qs.f]
 unfold qs.u7.f qs.u1.f qs.u6.f qs.u4.f qs.u3.f qs.u5.f
 exact zmy k (by omega) hl k n 0 (by omega) (by omega) hn (by omega) α _
theorem zme:∀ (s:List UInt8) (v:Int), (∀ b ∈ s, jx b = true)->0≤v->capF (if 10000 < v then 10000 else v) s = if 10000 < s.foldl (fun n b=>10 * n + ((b.toNat:Int) - 48)) v then 10000 else s.foldl (fun n b=>10 * n + ((b.toNat:Int) - 48)) v
 | [], v, _, _=>rfl
 | b :: s, v, hd, hv=>by
  have hb:=hd b List.mem_cons_self
  simp only [jx, Bool.and_eq_true, decide_eq_true_eq] at hb
  have:=zme s (10 * v + ((b.toNat:Int) - 48)) (fun c hc=>hd c (List.mem_cons_of_mem _ hc)) (by omega)
  rw [List.foldl_cons, ← this]
  unfold capF
  rw [List.foldl_cons]
  congr 1
  split <;> split <;> (try split) <;> omega
theorem zis (s:List UInt8) (hd:∀ b ∈ s, jx b = true):capF 0 s = if 10000 < numF s then 10000 else numF s:=by
 have:=zme s 0 hd (Int.le_refl _)
 rw [if_neg (by omega)] at this
 exact this
theorem zkf {text:List UInt8} {n:Nat} {c:UInt8} (hc:text[n]? = some c) (hk:jq c.toNat = 2 ∨ jq c.toNat = 3):zo text n c = (text.drop n).takeWhile yg:=by
 have hi:yg c = true:=by
  unfold jq at hk
  simp only [yg, jx, Bool.or_eq_true, Bool.and_eq_true, decide_eq_true_eq]
  repeat' split at hk
  all_goals omega
 unfold zo zao
 rw [if_neg (by omega), if_pos hk, zbg hc, List.drop_one, List.tail_cons, List.takeWhile_cons, hi, Nat.add_comm, List.take_succ_cons, zfn]
 rfl
theorem word_num {text:List UInt8} {n:Nat} {c:UInt8} (hc:text[n]? = some c) (hk:jq c.toNat = 4):zo text n c = (text.drop n).takeWhile jx:=by
 rw [zdv hc hk, zbg hc, List.takeWhile_cons, kind4 hk]
 rfl
theorem bad_num {c:UInt8} {r:List UInt8} (hd:∀ b ∈ c :: r, jx b = true):zec (c :: r) = true ↔ 9999 < capF 0 (c :: r) ∨ (c = 48 ∧ 1 < (c :: r).length):=by
 have h1:=numF_lt (c :: r) hd
 rw [zis _ hd]
 unfold zec
 simp only [Bool.or_eq_true, Bool.and_eq_true, decide_eq_true_eq, List.getElem?_cons_zero, Option.some.injEq]
 constructor
 ·rintro (h | ⟨h2, h3⟩)
  ·by_cases hc:c = 48
   ·exact .inr ⟨hc, by omega⟩
   ·left
    have:=numF_ge c r hd hc
    have h4:(10:Int) ^ 4≤10 ^ r.length:=by
     have:(10:Nat) ^ 4≤10 ^ r.length:=Nat.pow_le_pow_right (by decide) (by simp at h; omega)
     exact_mod_cast this
    have h5:(10:Int) ^ 4 = 10000:=by decide
    split <;> omega
  ·exact .inr ⟨h3, h2⟩
 ·rintro (h | ⟨h2, h3⟩)
  ·left
   rcases Nat.lt_or_ge 4 (c :: r).length with hh | hh
   ·exact hh
   ·exfalso
    have h2:(10:Int) ^ (c :: r).length≤10 ^ 4:=by
     have:(10:Nat) ^ (c :: r).length≤10 ^ 4:=Nat.pow_le_pow_right (by decide) hh
     exact_mod_cast this
    have h3:(10:Int) ^ 4 = 10000:=by decide
    split at h <;> omega
  ·exact .inr ⟨h3, h2⟩
theorem zfg {text:List UInt8} {p:Nat} {c:UInt8}:(text.take (p + (zo text p c).length)).drop p = zo text p c:=by
 rw [List.drop_take, Nat.add_sub_cancel_left]
 unfold zo
 rw [List.length_take]
 rcases Nat.le_total (zao (jq c.toNat) (text.drop p)) (text.drop p).length with h | h
 ·rw [Nat.min_eq_left h]
 ·rw [Nat.min_eq_right h, List.take_length, List.take_of_length_le h]
theorem one_run (k:Nat) (text:List UInt8) (n:Nat) (c:UInt8) (hc:text[n]? = some c) (hk:text.length + 5≤k) (hl:text.length≤262144) (h:H) :
  ∃ (t:Tok) (h':H), (∀ (α:Type) (ret:Int->Int->List UInt8->Int->Int->M α), qw.f (k + 1) text (n:Int) ret h = ret t.kind t.pos t.text t.num (tokF text n c).2 h') ∧ Ext h h' ∧ ((tokF text n c).2 = 0->t = (tokF text n c).1):=by
 have hlt:=zbm hc
 obtain ⟨k, rfl⟩:∃ q, k = q + 1:=⟨k - 1, by omega⟩
 have fin:∀ (kd num:Int) (w:List UInt8) (e:Int) (α:Type) (ret:Int->Int->List UInt8->Int->Int->M α), (ldI .i64 ⟨(h.push (.cells [.int .i64 0, .int .i64 0, .str [], .int .i64 0] true)).next, 0⟩ fun x29=>ldI .i64 ⟨(h.push (.cells [.int .i64 0, .int .i64 0, .str [], .int .i64 0] true)).next, 1⟩ fun x30=>
   ldStr ⟨(h.push (.cells [.int .i64 0, .int .i64 0, .str [], .int .i64 0] true)).next, 2⟩ fun x31=>ldI .i64 ⟨(h.push (.cells [.int .i64 0, .int .i64 0, .str [], .int .i64 0] true)).next, 3⟩ fun x32=>
   st1 ⟨h.next, 0⟩ (.int .i64 x29) <| st1 ⟨h.next, 1⟩ (.int .i64 x30) <| st1 ⟨h.next, 2⟩ (.str x31) <| st1 ⟨h.next, 3⟩ (.int .i64 x32) <|
   ldI .i64 ⟨h.next, 0⟩ fun o501=>ldI .i64 ⟨h.next, 1⟩ fun o502=>ldStr ⟨h.next, 2⟩ fun o503=>ldI .i64 ⟨h.next, 3⟩ fun o504=>ret o501 o502 o503 o504 e)
    ((h.push (.cells [.int .i64 0, .int .i64 0, .str [], .int .i64 0] true)).push (.cells [.int .i64 kd, .int .i64 n, .str w, .int .i64 num] true)) =
   ret kd n w num e ((h.push (.cells [.int .i64 kd, .int .i64 n, .str w, .int .i64 num] true)).push (.cells [.int .i64 kd, .int .i64 n, .str w, .int .i64 num] true)):=by
  intro kd num w e α ret
  rw [jd (n:=kd) (by rw [jw]; rfl), jd (n:=(n:Int)) (by rw [jw]; rfl), yj (n:=w) (by rw [jw]; rfl), jd (n:=num) (by rw [jw]; rfl)]
  rw [zbl rfl (by simp), zbl rfl (by simp), zbl rfl (by simp), zbl rfl (by simp)]
  simp only [List.set_cons_zero, List.set_cons_succ]
  rw [jd (n:=kd) (by rw [zay]; rfl), jd (n:=(n:Int)) (by rw [zay]; rfl), yj (n:=w) (by rw [zay]; rfl), jd (n:=num) (by rw [zay]; rfl)]
 -- as far as the cases
 have sign1:(text.take (n + 1)).drop n = [c]:=by
  rw [List.drop_take, Nat.add_sub_cancel_left, zbg hc]
  rfl
 have ext:∀ b1 b2:Blk, Ext h ((h.push b1).push b2):=fun b1 b2=>((Ext.refl h).push _).push _
 have wle:=zbe (c:=c) hlt
 unfold tokF
 by_cases h10:(c.toNat:Int) = 10
 ·have hk1:jq c.toNat = 1:=by unfold jq; rw [if_pos h10]
  have hw:zo text n c = [c]:=by unfold zo zao; rw [hk1, zbg hc]; rfl
  rw [if_neg (by omega), if_neg (by omega), if_neg (by omega)]
  refine ⟨⟨1, n, [c], 0⟩, (h.push (.cells (Tok.cells ⟨1, n, [c], 0⟩) true)).push (.cells (Tok.cells ⟨1, n, [c], 0⟩) true), fun α ret=>?_, ext _ _, fun _=>by rw [hk1, hw]⟩
  simp only [qw.f]
  unfold qw.u1.f
  rw [zp rfl, jf rfl hc, jn (n:=(n:Int) + 1) (by omega) (by omega), yk (n:=n) (m:=n + 1) rfl (by omega) (by omega) (by omega), sign1, zp rfl]
  simp only [zy, Nat.zero_add, Nat.add_zero]
  rw [zk rfl (by simp), zk rfl (by simp), zk rfl (by simp), zk rfl (by simp)]
  simp only [List.set_cons_zero, List.set_cons_succ]
  rw [zbh, zai, zax, show decide ((c.toNat:Int) = 10) = true by simpa using h10, cond_true, zk rfl (by simp)]
  simp only [List.set_cons_zero, List.set_cons_succ]
  exact fin _ _ _ _ _ _
 by_cases hsm:97≤(c.toNat:Int) ∧ (c.toNat:Int)≤122
 ·have hk2:jq c.toNat = 2:=by unfold jq; rw [if_neg h10, if_pos hsm]
  have hw:=zkf hc (.inl hk2)
  have hwl:n + ((text.drop n).takeWhile yg).length≤text.length:=by rw [← hw]; exact wle.2
  have hsl:(text.take (n + ((text.drop n).takeWhile yg).length)).drop n = zo text n c:=by rw [← hw]; exact zfg
  rw [if_neg (by omega), if_pos (.inl hk2)]
  refine ⟨⟨2, n, zo text n c, 0⟩, (h.push (.cells (Tok.cells ⟨2, n, zo text n c, 0⟩) true)).push (.cells (Tok.cells ⟨2, n, zo text n c, 0⟩) true), fun α ret=>?_, ext _ _, fun _=>by rw [hk2]⟩
  simp only [qw.f]
  unfold qw.u1.f
  rw [zp rfl, jf rfl hc, jn (n:=(n:Int) + 1) (by omega) (by omega), yk (n:=n) (m:=n + 1) rfl (by omega) (by omega) (by omega), sign1, zp rfl]
  simp only [zy, Nat.zero_add, Nat.add_zero]
  rw [zk rfl (by simp), zk rfl (by simp), zk rfl (by simp), zk rfl (by simp)]
  simp only [List.set_cons_zero, List.set_cons_succ]
  rw [zbh, zai, zax, show decide ((c.toNat:Int) = 10) = false by simpa using h10, cond_false, show decide (97≤(c.toNat:Int) ∧ (c.toNat:Int)≤122) = true by simpa using hsm, cond_true, zk rfl (by simp), cond_true, zk rfl (by simp)]
  simp only [List.set_cons_zero, List.set_cons_succ]
  rw [zne k hl (by omega) (by omega), yk (n:=n) rfl rfl (by omega) hwl, hsl, zk rfl (by simp)]
  simp only [List.set_cons_zero, List.set_cons_succ]
  rw [yj (n:=zo text n c) (by rw [jw]; rfl)]
  by_cases h8:8 < (zo text n c).length
  ·rw [show decide ((8:Int) < ((zo text n c).length:Int)) = true from decide_eq_true (by omega), cond_true, if_pos h8]
   exact fin _ _ _ _ _ _
  ·rw [show decide ((8:Int) < ((zo text n c).length:Int)) = false from decide_eq_false (by omega), cond_false, if_neg h8]
   exact fin _ _ _ _ _ _
 by_cases hcp:65≤(c.toNat:Int) ∧ (c.toNat:Int)≤90
 ·have hk3:jq c.toNat = 3:=by unfold jq; rw [if_neg h10, if_neg hsm, if_pos hcp]
  have hw:=zkf hc (.inr hk3)
  have hwl:n + ((text.drop n).takeWhile yg).length≤text.length:=by rw [← hw]; exact wle.2
  have hsl:(text.take (n + ((text.drop n).takeWhile yg).length)).drop n = zo text n c:=by rw [← hw]; exact zfg
  rw [if_neg (by omega), if_pos (.inr hk3)]
  refine ⟨⟨3, n, zo text n c, 0⟩, (h.push (.cells (Tok.cells ⟨3, n, zo text n c, 0⟩) true)).push (.cells (Tok.cells ⟨3, n, zo text n c, 0⟩) true), fun α ret=>?_, ext _ _, fun _=>by rw [hk3]⟩
  simp only [qw.f]
  unfold qw.u1.f
  rw [zp rfl, jf rfl hc, jn (n:=(n:Int) + 1) (by omega) (by omega), yk (n:=n) (m:=n + 1) rfl (by omega) (by omega) (by omega), sign1, zp rfl]
  simp only [zy, Nat.zero_add, Nat.add_zero]
  rw [zk rfl (by simp), zk rfl (by simp), zk rfl (by simp), zk rfl (by simp)]
  simp only [List.set_cons_zero, List.set_cons_succ]
  rw [zbh, zai, zax, show decide ((c.toNat:Int) = 10) = false by simpa using h10, cond_false, show decide (97≤(c.toNat:Int) ∧ (c.toNat:Int)≤122) = false by simpa using hsm, cond_false, show decide (65≤(c.toNat:Int) ∧ (c.toNat:Int)≤90) = true by simpa using hcp, cond_true, zk rfl (by simp), cond_false]
  simp only [List.set_cons_zero, List.set_cons_succ]
  rw [zne k hl (by omega) (by omega), yk (n:=n) rfl rfl (by omega) hwl, hsl, zk rfl (by simp)]
  simp only [List.set_cons_zero, List.set_cons_succ]
  rw [yj (n:=zo text n c) (by rw [jw]; rfl)]
  by_cases h8:8 < (zo text n c).length
  ·rw [show decide ((8:Int) < ((zo text n c).length:Int)) = true from decide_eq_true (by omega), cond_true, if_pos h8]
   exact fin _ _ _ _ _ _
  ·rw [show decide ((8:Int) < ((zo text n c).length:Int)) = false from decide_eq_false (by omega), cond_false, if_neg h8]
   exact fin _ _ _ _ _ _
 by_cases hdg:48≤(c.toNat:Int) ∧ (c.toNat:Int)≤57
 ·have hk4:jq c.toNat = 4:=by unfold jq; rw [if_neg h10, if_neg hsm, if_neg hcp, if_pos hdg]
  have hw:=word_num hc hk4
  have hwl:n + ((text.drop n).takeWhile jx).length≤text.length:=by rw [← hw]; exact wle.2
  have hsl:(text.take (n + ((text.drop n).takeWhile jx).length)).drop n = zo text n c:=by rw [← hw]; exact zfg
  have hds:∀ b ∈ zo text n c, jx b = true:=by rw [hw]; exact zcu _ _
  have hcons:=zdv hc hk4
  have hbad:=bad_num (c:=c) (r:=(text.drop (n + 1)).takeWhile jx) (by rw [← hcons]; exact hds)
  rw [← hcons] at hbad
  rw [if_neg (by omega), if_neg (by omega), if_pos hk4]
  have hnum:zec (zo text n c) = false->capF 0 (zo text n c) = numF (zo text n c):=by
   intro hb
   rw [zis _ hds]
   have:=mt hbad.2 (by rw [hb]; decide)
   rw [zis _ hds] at this
   split
   ·next h=>exact absurd (.inl (by rw [if_pos h]; decide)) this
   ·rfl
  refine ⟨⟨4, n, zo text n c, capF 0 (zo text n c)⟩, (h.push (.cells (Tok.cells ⟨4, n, zo text n c, capF 0 (zo text n c)⟩) true)).push (.cells (Tok.cells ⟨4, n, zo text n c, capF 0 (zo text n c)⟩) true), fun α ret=>?_, ext _ _, fun hh=>?_⟩
  ·simp only [qw.f]
   unfold qw.u1.f
   rw [zp rfl, jf rfl hc, jn (n:=(n:Int) + 1) (by omega) (by omega), yk (n:=n) (m:=n + 1) rfl (by omega) (by omega) (by omega), sign1, zp rfl]
   simp only [zy, Nat.zero_add, Nat.add_zero]
   rw [zk rfl (by simp), zk rfl (by simp), zk rfl (by simp), zk rfl (by simp)]
   simp only [List.set_cons_zero, List.set_cons_succ]
   rw [zbh, zai, zax, show decide ((c.toNat:Int) = 10) = false by simpa using h10, cond_false, show decide (97≤(c.toNat:Int) ∧ (c.toNat:Int)≤122) = false by simpa using hsm, cond_false, show decide (65≤(c.toNat:Int) ∧ (c.toNat:Int)≤90) = false by simpa using hcp, cond_false, show decide (48≤(c.toNat:Int) ∧ (c.toNat:Int)≤57) = true by simpa using hdg, cond_true, zk rfl (by simp)]
   simp only [List.set_cons_zero, List.set_cons_succ]
   rw [zno k hl (by omega) (by omega), yk (n:=n) rfl rfl (by omega) hwl, hsl, zk rfl (by simp), zk rfl (by simp), ← hw]
   simp only [List.set_cons_zero, List.set_cons_succ]
   by_cases h9:9999 < capF 0 (zo text n c)
   ·rw [show decide (9999 < capF 0 (zo text n c)) = true from decide_eq_true h9, cond_true, if_pos (hbad.2 (.inl h9))]
    exact fin _ _ _ _ _ _
   ·rw [show decide (9999 < capF 0 (zo text n c)) = false from decide_eq_false h9, cond_false]
    by_cases h48:c = 48
    ·have h48':(c.toNat:Int) = 48:=by rw [h48]; rfl
     rw [show decide ((c.toNat:Int) = 48) = true from decide_eq_true h48', cond_true]
     by_cases h1:1 < (zo text n c).length
     ·rw [show decide ((n:Int) + 1 < ((n + (zo text n c).length:Nat):Int)) = true from decide_eq_true (by omega), cond_true, if_pos (hbad.2 (.inr ⟨h48, h1⟩))]
      exact fin _ _ _ _ _ _
     ·rw [show decide ((n:Int) + 1 < ((n + (zo text n c).length:Nat):Int)) = false from decide_eq_false (by omega), cond_false, if_neg (fun hb=>by rcases hbad.1 hb with h | h; exact h9 h; exact h1 h.2)]
      exact fin _ _ _ _ _ _
    ·have h48':¬ (c.toNat:Int) = 48:=fun h=>h48 (UInt8.toNat_inj.1 (by show c.toNat = 48; omega))
     rw [show decide ((c.toNat:Int) = 48) = false from decide_eq_false h48', cond_false, if_neg (fun hb=>by rcases hbad.1 hb with h | h; exact h9 h; exact h48 h.1)]
     exact fin _ _ _ _ _ _
  ·cases hb:zec (zo text n c) with
   | true=>rw [hb] at hh; cases hh
   | false=>rw [hnum hb]; rfl
 by_cases hsg:33≤(c.toNat:Int) ∧ (c.toNat:Int)≤126 ∧ (c.toNat:Int) ≠ 95
 ·have hk5:jq c.toNat = 5:=by unfold jq; rw [if_neg h10, if_neg hsm, if_neg hcp, if_neg hdg, if_pos (by omega)]
  have hw:zo text n c = [c]:=by unfold zo zao; rw [hk5, zbg hc]; rfl
  rw [if_neg (by omega), if_neg (by omega), if_neg (by omega)]
  refine ⟨⟨5, n, [c], 0⟩, (h.push (.cells (Tok.cells ⟨5, n, [c], 0⟩) true)).push (.cells (Tok.cells ⟨5, n, [c], 0⟩) true), fun α ret=>?_, ext _ _, fun _=>by rw [hk5, hw]⟩
  simp only [qw.f]
  unfold qw.u1.f
  rw [zp rfl, jf rfl hc, jn (n:=(n:Int) + 1) (by omega) (by omega), yk (n:=n) (m:=n + 1) rfl (by omega) (by omega) (by omega), sign1, zp rfl]
  simp only [zy, Nat.zero_add, Nat.add_zero]
  rw [zk rfl (by simp), zk rfl (by simp), zk rfl (by simp), zk rfl (by simp)]
  simp only [List.set_cons_zero, List.set_cons_succ]
  rw [zbh, zai, zax, show decide ((c.toNat:Int) = 10) = false by simpa using h10, cond_false, show decide (97≤(c.toNat:Int) ∧ (c.toNat:Int)≤122) = false by simpa using hsm, cond_false, show decide (65≤(c.toNat:Int) ∧ (c.toNat:Int)≤90) = false by simpa using hcp, cond_false, show decide (48≤(c.toNat:Int) ∧ (c.toNat:Int)≤57) = false by simpa using hdg, cond_false,
   show decide (33≤(c.toNat:Int)) = true by simpa using hsg.1, cond_true, show decide ((c.toNat:Int)≤126) = true by simpa using hsg.2.1, cond_true, show decide ((c.toNat:Int) = 95) = false by simpa using hsg.2.2, Bool.not_false, cond_true, zk rfl (by simp)]
  simp only [List.set_cons_zero, List.set_cons_succ]
  exact fin _ _ _ _ _ _
 ·have hk0:jq c.toNat = 0:=by unfold jq; rw [if_neg h10, if_neg hsm, if_neg hcp, if_neg hdg, if_neg (by omega)]
  rw [if_pos hk0]
  refine ⟨⟨0, n, [c], 0⟩, (h.push (.cells (Tok.cells ⟨0, n, [c], 0⟩) true)).push (.cells (Tok.cells ⟨0, n, [c], 0⟩) true), fun α ret=>?_, ext _ _, fun hh=>by cases hh⟩
  simp only [qw.f]
  unfold qw.u1.f
  rw [zp rfl, jf rfl hc, jn (n:=(n:Int) + 1) (by omega) (by omega), yk (n:=n) (m:=n + 1) rfl (by omega) (by omega) (by omega), sign1, zp rfl]
  simp only [zy, Nat.zero_add, Nat.add_zero]
  rw [zk rfl (by simp), zk rfl (by simp), zk rfl (by simp), zk rfl (by simp)]
  simp only [List.set_cons_zero, List.set_cons_succ]
  rw [zbh, zai, zax, show decide ((c.toNat:Int) = 10) = false by simpa using h10, cond_false, show decide (97≤(c.toNat:Int) ∧ (c.toNat:Int)≤122) = false by simpa using hsm, cond_false, show decide (65≤(c.toNat:Int) ∧ (c.toNat:Int)≤90) = false by simpa using hcp, cond_false, show decide (48≤(c.toNat:Int) ∧ (c.toNat:Int)≤57) = false by simpa using hdg, cond_false]
  by_cases b1:33≤(c.toNat:Int)
  ·rw [show decide (33≤(c.toNat:Int)) = true from decide_eq_true b1, cond_true]
   by_cases b2:(c.toNat:Int)≤126
   ·have b3:(c.toNat:Int) = 95:=by
     by_cases b3:(c.toNat:Int) = 95
     ·exact b3
     ·exact absurd ⟨b1, b2, b3⟩ hsg
    rw [show decide ((c.toNat:Int)≤126) = true from decide_eq_true b2, cond_true, show decide ((c.toNat:Int) = 95) = true from decide_eq_true b3, Bool.not_true, cond_false]
    exact fin _ _ _ _ _ _
   ·rw [show decide ((c.toNat:Int)≤126) = false from decide_eq_false b2, cond_false]
    exact fin _ _ _ _ _ _
  ·rw [show decide (33≤(c.toNat:Int)) = false from decide_eq_false b1, cond_false]
   exact fin _ _ _ _ _ _
theorem ref_rem (k:Nat) {text:List UInt8} (hl:text.length≤262144) {sl:Sl} {h:H}:∀ (f n:Nat), n≤text.length->text.length - n < f->∀ (α:Type) (kx:List UInt8->Sl->Int->M α),
  qd.u8.l k kx f text sl (n:Int) h = kx text sl ((n + remF (text.drop n):Nat):Int) h:=by
 intro f
 induction f with
 | zero=>intro n hn hf; omega
 | succ f ih=>
  intro n hn hf α kx
  rw [qd.u8.l, qd.u7.f]
  by_cases hlt:n < text.length
  ·have hc:text[n]? = some text[n]:=List.getElem?_eq_getElem hlt
   rw [show decide ((n:Int) < (text.length:Int)) = true by simpa using hlt, cond_true, jf rfl hc]
   unfold remF
   rw [zdx hlt, List.takeWhile_cons]
   by_cases h10:text[n] = 10
   ·rw [h10]
    rw [show decide (((10:UInt8).toNat:Int) = 10) = true from rfl, Bool.not_true, cond_false]
    simp
   ·have:(text[n].toNat:Int) ≠ 10:=fun h=>h10 (UInt8.toNat_inj.1 (by show text[n].toNat = 10; omega))
    rw [show decide ((text[n].toNat:Int) = 10) = false from decide_eq_false this, Bool.not_false, cond_true, jn (by omega) (by omega), show ((n:Int) + 1) = ((n + 1:Nat):Int) by omega, ih (n + 1) (by omega) (by omega), show (text[n] != 10) = true by simpa using h10]
    simp only [if_true, List.length_cons]
    unfold remF
    rw [show n + 1 + (List.takeWhile (fun b=>b != 10) (List.drop (n + 1) text)).length = n + ((List.takeWhile (fun b=>b != 10) (List.drop (n + 1) text)).length + 1) by omega]
  ·rw [show decide ((n:Int) < (text.length:Int)) = false by simpa using hlt, cond_false, List.drop_of_length_le (by omega)]
   simp [remF]
theorem zmv (k:Nat) {text:List UInt8} (hl:text.length≤262144) (hk:text.length + 6≤k) (h₀:H):∀ {n m:Nat} {ts:List Tok}, Sc text n ts m->∀ (j:Nat) (acc:List Tok) (sl:Sl) (h:H), text.length - n < j->Ext h₀ h->Row h sl 4 (yl acc)->zci h₀ sl->acc.length≤n ->
  ∃ j' sl' h', (∀ (α:Type) (kr:Sl->Int->Int->M α) (kx:List UInt8->Sl->M α), qd.u23.l k kr kx j text sl (n:Int) h = qd.u23.l k kr kx j' text sl' (m:Int) h') ∧ text.length - m < j' ∧ Ext h₀ h' ∧ Row h' sl' 4 (yl (acc ++ ts)) ∧ zci h₀ sl' ∧ acc.length + ts.length≤m:=by
 obtain ⟨k, rfl⟩:∃ q, k = q + 1:=⟨k - 1, by omega⟩
 intro n m ts s
 induction s with
 | nil hn=>
  intro j acc sl h hj x r o ha
  exact ⟨j, sl, h, fun _ _ _=>rfl, hj, x, by simpa using r, o, by simpa using ha⟩
 | blank hc hb s ih=>
  intro j acc sl h hj x r o ha
  rename_i n' m' ts' c
  have hlt:=zbm hc
  obtain ⟨j, rfl⟩:∃ q, j = q + 1:=⟨j - 1, by omega⟩
  obtain ⟨j', sl', h', e, e2⟩:=ih j acc sl h (by omega) x r o (by omega)
  refine ⟨j', sl', h', fun α kr kx=>?_, e2⟩
  rw [qd.u23.l]
  unfold qd.u22.f qd.u2.f
  rw [show decide ((n':Int) < (text.length:Int)) = true from decide_eq_true (by omega), cond_true]
  unfold qd.u21.f qd.u20.f qd.u18.f qd.u3.f
  dsimp only
  rw [jf rfl hc]
  unfold qd.u17.f qd.u16.f qd.u4.f qd.u15.f qd.u5.f
  have hb':(c.toNat:Int) = 32 ∨ (c.toNat:Int) = 9:=by
   simp only [zau, Bool.or_eq_true, decide_eq_true_eq] at hb
   exact hb
  rw [← e α kr kx, show (((n' + 1:Nat)):Int) = w64 ((n':Int) + 1) by rw [jn (by omega) (by omega)]; omega]
  rcases hb' with h32 | h9
  ·rw [show decide ((c.toNat:Int) = 32) = true from decide_eq_true h32]
   rfl
  ·rw [show decide ((c.toNat:Int) = 32) = false from decide_eq_false (by omega), show decide ((c.toNat:Int) = 9) = true from decide_eq_true h9]
   rfl
 | rem hc hb hr s ih=>
  intro j acc sl h hj x r o ha
  rename_i n' m' ts' c
  have hlt:=zbm hc
  obtain ⟨r1, r2⟩:=zgi hc hr
  obtain ⟨j, rfl⟩:∃ q, j = q + 1:=⟨j - 1, by omega⟩
  obtain ⟨j', sl', h', e, e2⟩:=ih j acc sl h (by omega) x r o (by omega)
  refine ⟨j', sl', h', fun α kr kx=>?_, e2⟩
  rw [qd.u23.l]
  unfold qd.u22.f qd.u2.f
  rw [show decide ((n':Int) < (text.length:Int)) = true from decide_eq_true (by omega), cond_true]
  unfold qd.u21.f qd.u20.f qd.u18.f qd.u3.f
  dsimp only
  rw [jf rfl hc]
  unfold qd.u17.f qd.u16.f qd.u4.f qd.u15.f
  have h35:(c.toNat:Int) = 35:=by simpa [yy] using hr
  rw [show decide ((c.toNat:Int) = 32) = false from decide_eq_false (by omega), show decide ((c.toNat:Int) = 9) = false from decide_eq_false (by omega)]
  dsimp only [cond_false]
  unfold qd.u14.f qd.u6.f
  rw [show decide ((c.toNat:Int) = 35) = true from decide_eq_true h35]
  unfold qd.u13.f
  dsimp only [cond_true]
  unfold qd.u11.f qd.u9.f qd.u8.f
  refine (ref_rem (k + 1) hl (k + 1) n' (by omega) (by omega) α _).trans ?_
  unfold qd.u10.f
  exact e α kr kx
 | tok hc hb hr he s ih=>
  intro j acc sl h hj x r o ha
  rename_i n' m' ts' c
  have hlt:=zbm hc
  obtain ⟨w1, w2⟩:=zbe (c:=c) hlt
  obtain ⟨j, rfl⟩:∃ q, j = q + 1:=⟨j - 1, by omega⟩
  obtain ⟨t, h1, f1, x1, ft⟩:=one_run k text n' c hc (by omega) hl h
  have ft:=ft he
  subst ft
  have htext:=zey text n' c
  have e1:Ext h ((h1.push (.cells (tokF text n' c).1.cells true)).push (.cells (tokF text n' c).1.cells true)):=(x1.push _).push _
  have r1:=r.ext e1
  have hlen4:=zmr r
  obtain ⟨h2, a1, a2, a3, a4⟩:=zdh (bytes:=40)
   (x:=⟨some ⟨(h1.push (.cells (tokF text n' c).1.cells true)).next, 0⟩, 1, 1, none⟩) (more:=(tokF text n' c).1.cells) r1 rfl
   (by rw [yz (cs:=(tokF text n' c).1.cells) (o:=true) (by rw [jh]; exact if_pos rfl) (by show 0 + 1 * 4≤4; omega)]; rfl) (Nat.succ_pos _) (by decide)
   (by show (sl.len + 1 + (sl.len + 1) / 4 + 512) * 40≤_; omega)
  have hcell:h2.cell ⟨h1.next, 2⟩ = some (.str (zo text n' c)):=by
   rw [jr (cs:=(tokF text n' c).1.cells) (o:=true)]
   ·rw [← htext]; rfl
   ·rw [a4 h1.next (by rw [zh, zh]; omega)]
    ·rw [jh, if_neg (by rw [zh]; omega), jh, if_pos rfl]
    ·intro a hsa
     rcases r with ⟨rfl, _⟩ | ⟨id, q1, q2, q3, q4⟩
     ·cases hsa
     ·rw [q1] at hsa
      cases hsa
      have:=x1.1
      show h1.next ≠ id
      omega
  have hx2:Ext h₀ h2:=(x.trans e1).app o a3 a4
  obtain ⟨j', sl', h', e, e2, e3, e4, e5, e6⟩:=ih j (acc ++ [(tokF text n' c).1]) ⟨some ⟨((h1.push (.cells (tokF text n' c).1.cells true)).push (.cells (tokF text n' c).1.cells true)).next, 0⟩, sl.len + 1, sl.len + 1, some 4⟩ h2 (by omega) hx2
   (by rw [show yl (acc ++ [(tokF text n' c).1]) = yl acc ++ (tokF text n' c).1.cells by simp [yl]]; exact a2)
   (fun a ha=>by cases ha; have:=x.1; have:=x1.1; simp only [zh]; omega) (by simp; omega)
  refine ⟨j', sl', h', fun α kr kx=>?_, e2, e3, by simpa using e4, e5, by simp at e6 ⊢; omega⟩
  rw [qd.u23.l]
  unfold qd.u22.f qd.u2.f
  rw [show decide ((n':Int) < (text.length:Int)) = true from decide_eq_true (by omega), cond_true]
  unfold qd.u21.f qd.u20.f qd.u18.f qd.u3.f
  dsimp only
  rw [jf rfl hc]
  unfold qd.u17.f qd.u16.f qd.u4.f qd.u15.f
  have hb32:¬ ((c.toNat:Int) = 32 ∨ (c.toNat:Int) = 9):=by
   intro hh
   simp only [zau, Bool.or_eq_false_iff, decide_eq_false_iff_not] at hb
   omega
  have h35:¬ (c.toNat:Int) = 35:=by simpa [yy] using hr
  rw [show decide ((c.toNat:Int) = 32) = false from decide_eq_false (by omega), show decide ((c.toNat:Int) = 9) = false from decide_eq_false (by omega)]
  dsimp only [cond_false]
  unfold qd.u14.f qd.u6.f
  rw [show decide ((c.toNat:Int) = 35) = false from decide_eq_false h35]
  unfold qd.u13.f
  dsimp only [cond_false]
  unfold qd.u12.f qd.u19.f
  dsimp only
  rw [f1, he, zp rfl]
  simp only [zy, Nat.zero_add, Nat.add_zero]
  rw [zk rfl (by simp), zk rfl (by simp), zk rfl (by simp), zk rfl (by simp)]
  simp only [List.set_cons_zero, List.set_cons_succ, decide_true, Bool.not_true, cond_false]
  rw [jd (n:=(tokF text n' c).1.kind) (by rw [jw]; rfl), jd (n:=(tokF text n' c).1.pos) (by rw [jw]; rfl), yj (n:=(tokF text n' c).1.text) (by rw [jw]; rfl), jd (n:=(tokF text n' c).1.num) (by rw [jw]; rfl), zp rfl]
  refine (a1 α _).trans ?_
  rw [yj hcell, jn (by omega) (by omega)]
  exact e α kr kx
theorem ref_run (k:Nat) (text:List UInt8) (hk:min text.length 262144 + 8≤k) (h:H) :
  match zcp text with
  | .ok ts=>∃ sl h', (∀ (α:Type) (ret:Sl->Int->Int->M α), qd.f (k + 1) text ret h = ret sl 0 0 h') ∧ Ext h h' ∧ Row h' sl 4 (yl ts) ∧ zci h sl
  | .error (m, e)=>∃ h', (∀ (α:Type) (ret:Sl->Int->Int->M α), qd.f (k + 1) text ret h = ret Sl.nil m e h') ∧ Ext h h':=by
 rcases zek text with ⟨hl, hs⟩ | ⟨hl, ts, sc, hs⟩ | ⟨hl, m, e, ts, sc, bd, hs⟩
 ·rw [hs]
  refine ⟨h, fun α ret=>?_, Ext.refl h⟩
  simp only [qd.f]
  unfold qd.u27.f qd.u1.f
  rw [show decide ((262144:Int) < (text.length:Int)) = true from decide_eq_true (by omega), cond_true]
  rfl
 ·rw [hs]
  obtain ⟨j', sl', h', e, e2, e3, e4, e5, e6⟩:=zmv k hl (by omega) h sc k [] Sl.nil h (by omega) (Ext.refl h) (Row.nil h 4) (zci.nil h) (Nat.le_refl _)
  simp only [List.nil_append, List.length_nil, Nat.zero_add] at e4 e6
  obtain ⟨j', rfl⟩:∃ q, j' = q + 1:=⟨j' - 1, by omega⟩
  have hlen:=zmr e4
  have r1:=e4.ext ((Ext.refl h').push (.cells (Tok.cells ⟨0, (text.length:Nat), [], 0⟩) true))
  obtain ⟨h2, a1, a2, a3, a4⟩:=zdh (bytes:=40) (x:=⟨some ⟨h'.next, 0⟩, 1, 1, none⟩) (more:=Tok.cells ⟨0, (text.length:Nat), [], 0⟩) r1 rfl
   (by rw [yz (cs:=Tok.cells ⟨0, (text.length:Nat), [], 0⟩) (o:=true) (by rw [jh]; exact if_pos rfl) (by show 0 + 1 * 4≤4; omega)]; rfl) (Nat.succ_pos _) (by decide)
   (by show (sl'.len + 1 + (sl'.len + 1) / 4 + 512) * 40≤_; omega)
  refine ⟨_, h2, fun α ret=>?_, (e3.push _).app e5 a3 a4, by rw [show yl (ts ++ [(⟨0, (text.length:Nat), [], 0⟩:Tok)]) = yl ts ++ Tok.cells ⟨0, (text.length:Nat), [], 0⟩ by simp [yl]]; exact a2, fun a ha=>by cases ha; have:=e3.1; simp only [zh]; omega⟩
  simp only [qd.f]
  unfold qd.u27.f qd.u1.f
  rw [show decide ((262144:Int) < (text.length:Int)) = false from decide_eq_false (by omega), cond_false]
  unfold qd.u26.f qd.u24.f qd.u23.f
  refine (e α _ _).trans ?_
  rw [qd.u23.l]
  unfold qd.u22.f qd.u2.f
  rw [show decide ((text.length:Int) < (text.length:Int)) = false from decide_eq_false (by omega), cond_false]
  unfold qd.u25.f
  dsimp only
  rw [zp rfl]
  exact a1 α _
 ·rw [hs]
  obtain ⟨j', sl', h', e1, e2, e3, e4, e5, e6⟩:=zmv k hl (by omega) h sc k [] Sl.nil h (by omega) (Ext.refl h) (Row.nil h 4) (zci.nil h) (Nat.le_refl _)
  obtain ⟨j', rfl⟩:∃ q, j' = q + 1:=⟨j' - 1, by omega⟩
  obtain ⟨⟨c, hc, hb, hr, he⟩, hne⟩:=bd
  have hlt:=zbm hc
  obtain ⟨k, rfl⟩:∃ q, k = q + 1:=⟨k - 1, by omega⟩
  obtain ⟨t, h1, f1, x1, ft⟩:=one_run k text m c hc (by omega) hl h'
  refine ⟨h1.push (.cells t.cells true), fun α ret=>?_, (e3.trans x1).push _⟩
  simp only [qd.f]
  unfold qd.u27.f qd.u1.f
  rw [show decide ((262144:Int) < (text.length:Int)) = false from decide_eq_false (by omega), cond_false]
  unfold qd.u26.f qd.u24.f qd.u23.f
  refine (e1 α _ _).trans ?_
  rw [qd.u23.l]
  unfold qd.u22.f qd.u2.f
  rw [show decide ((m:Int) < (text.length:Int)) = true from decide_eq_true (by omega), cond_true]
  unfold qd.u21.f qd.u20.f qd.u18.f qd.u3.f
  dsimp only
  rw [jf rfl hc]
  unfold qd.u17.f qd.u16.f qd.u4.f qd.u15.f
  have hb32:¬ ((c.toNat:Int) = 32 ∨ (c.toNat:Int) = 9):=by
   intro hh
   simp only [zau, Bool.or_eq_false_iff, decide_eq_false_iff_not] at hb
   omega
  have h35:¬ (c.toNat:Int) = 35:=by simpa [yy] using hr
  rw [show decide ((c.toNat:Int) = 32) = false from decide_eq_false (by omega), show decide ((c.toNat:Int) = 9) = false from decide_eq_false (by omega)]
  dsimp only [cond_false]
  unfold qd.u14.f qd.u6.f
  rw [show decide ((c.toNat:Int) = 35) = false from decide_eq_false h35]
  unfold qd.u13.f
  dsimp only [cond_false]
  unfold qd.u12.f qd.u19.f
  dsimp only
  rw [f1, he, zp rfl]
  simp only [zy, Nat.zero_add, Nat.add_zero]
  rw [zk rfl (by simp), zk rfl (by simp), zk rfl (by simp), zk rfl (by simp)]
  simp only [List.set_cons_zero, List.set_cons_succ]
  rw [show decide (e = 0) = false from decide_eq_false hne, Bool.not_false, cond_true]
  rfl
end Go.Ab.S8
