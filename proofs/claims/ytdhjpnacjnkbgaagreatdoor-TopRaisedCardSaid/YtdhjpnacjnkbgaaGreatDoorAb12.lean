import Derived.Test.YtdhjpnacjnkbgaaGreatDoorAb18
import Derived.Orders
set_option linter.unusedVariables false
set_option linter.unusedSimpArgs false
set_option linter.unusedSectionVars false
namespace Go.Ab
inductive Bef (ops:Array Oper):Nat->Nat->Prop
 | one {j:Nat} {o:Oper} {e:Edge}:ops[j]? = some o->e ∈ o.after->Region.binds .any e = true->Bef ops e.on j
 | cons {i j:Nat} {o:Oper} {e:Edge}:ops[j]? = some o->e ∈ o.after->Region.binds .any e = true->Bef ops i e.on->Bef ops i j
def befAt (acc:List Nat) (l:List Edge):Nat:=l.foldl (fun s e=>cond (Region.binds .any e) (s ||| (2 ^ e.on ||| (acc[e.on]?).getD 0)) s) 0
def befs:List Oper->List Nat->List Nat
 | [], acc=>acc
 | o :: os, acc=>befs os (acc ++ [befAt acc o.after.toList])
theorem zig (acc:List Nat) (i:Nat):∀ (l:List Edge) (s:Nat),
  (l.foldl (fun s e=>cond (Region.binds .any e) (s ||| (2 ^ e.on ||| (acc[e.on]?).getD 0)) s) s).testBit i = true ->
   s.testBit i = true ∨ ∃ e ∈ l, Region.binds .any e = true ∧ (e.on = i ∨ ((acc[e.on]?).getD 0).testBit i = true)
 | [], s, h=>.inl h
 | e :: l, s, h=>by
  simp only [List.foldl_cons] at h
  rcases zig acc i l _ h with h | ⟨e', he, hb, h⟩
  ·cases hb:Region.binds .any e with
   | false=>rw [hb] at h; exact .inl h
   | true=>
    rw [hb] at h
    simp only [cond_true, Nat.testBit_or, Bool.or_eq_true] at h
    rcases h with h | h | h
    ·exact .inl h
    ·refine .inr ⟨e, List.mem_cons_self, hb, .inl ?_⟩
     rw [Nat.testBit_two_pow] at h
     exact of_decide_eq_true h
    ·exact .inr ⟨e, List.mem_cons_self, hb, .inr h⟩
  ·exact .inr ⟨e', List.mem_cons_of_mem _ he, hb, h⟩
theorem zlk {ops:Array Oper}:∀ (rest done:List Oper) (acc:List Nat), ops.toList = done ++ rest->acc.length = done.length ->
  (∀ j b i, acc[j]? = some b->b.testBit i = true->Bef ops i j)->∀ (j b i:Nat), (befs rest acc)[j]? = some b->b.testBit i = true->Bef ops i j
 | [], _, _, _, _, h=>h
 | o :: os, done, acc, ho, hl, h=>by
  refine zlk os (done ++ [o]) (acc ++ [befAt acc o.after.toList]) (by rw [ho]; simp) (by simp [hl]) ?_
  intro j b i hj hb
  by_cases hlt:j < acc.length
  ·rw [List.getElem?_append_left hlt] at hj; exact h j b i hj hb
  ·have hje:j = acc.length:=by
    rcases Nat.lt_or_ge acc.length j with h1 | h1
    ·rw [List.getElem?_eq_none (by simp; omega)] at hj; cases hj
    ·omega
   subst hje
   rw [List.getElem?_append_right (Nat.le_refl _)] at hj
   simp at hj
   subst hj
   have hoj:ops[acc.length]? = some o:=by
    rw [← Array.getElem?_toList, ho, hl, List.getElem?_append_right (Nat.le_refl _)]
    simp
   rcases zig acc i _ 0 hb with h0 | ⟨e, he, hbi, h0⟩
   ·simp at h0
   ·have he:=Array.mem_toList_iff.1 he
    rcases h0 with rfl | h0
    ·exact .one hoj he hbi
    ·cases ha:acc[e.on]? with
     | none=>rw [ha] at h0; simp at h0
     | some b'=>rw [ha] at h0; exact .cons hoj he hbi (h _ b' i ha h0)
def zbs (bits:List Nat) (i j:Nat):Bool:=((bits[j]?).getD 0).testBit i
theorem zay {ops:Array Oper} {i j:Nat} (h:zbs (befs ops.toList []) i j = true):Bef ops i j:=by
 unfold zbs at h
 cases hj:(befs ops.toList [])[j]? with
 | none=>rw [hj] at h; simp at h
 | some b=>rw [hj] at h; exact zlk ops.toList [] [] rfl rfl (by simp) j b i hj h
def cls (T:Tab) (o:Oper):Nat:=cond (zbd T o.op) 0 (match o.op with
 | .load ..=>1
 | .makeSlice _ _ _=>3
 | .buildSlice _ _ _=>3
 | .alloc t=>cond (T.spec t) 2 3
 | _=>2)
def isApp (o:Oper):Bool:=match o.op with | .call ⟨.builtin _, _, _⟩=>true | .alloc _ | .box _ _ | .store _ _ _ | .convert _ _ _ | .lookup _ _ _ _ | .mapUpdate _ _ _ _=>true | _=>false
def yj (T:Tab) (ops:Array Oper) (i:Nat):Nat:=match ops[i]? with | some o=>cls T o | none=>2
def Do.at:Do->Option (Nat × Bool)
 | .op i=>some (i, false)
 | .np i=>some (i, true)
 | _=>none
def zde:List Do->List Nat
 | .look i :: l=>i :: zde l
 | _=>[]
def zka (T:Tab) (ops:Array Oper) (bits:List Nat) (i:Nat) (b:Bool) (l:List Do) (done:List Nat):Bool:=
 match ops[i]? with
 | some o=>!done.contains i && o.after.toList.all (fun e=>!Region.binds .any e || done.contains e.on) && done.all (fun j=>yj T ops j != 2 || zbs bits j i) &&
   (cls T o != 2 || done.all (fun j=>(yj T ops j != 1 || zbs bits j i || (zde l).contains j) && (yj T ops j != 3 || zbs bits j i || isApp o || b)))
 | none=>false
def zaq (T:Tab) (ops:Array Oper) (bits:List Nat):List Do->List Nat->Bool
 | [], done=>(List.range ops.size).all fun i=>done.contains i
 | .op i :: l, done=>zka T ops bits i false l done && zaq T ops bits l (i :: done)
 | .np i :: l, done=>zka T ops bits i true l done && zaq T ops bits l (i :: done)
 | .look _ :: l, done=>zaq T ops bits l done
 | .expect _ _ :: l, done=>zaq T ops bits l done
def zef (ops:Array Oper):Bool:=(List.range ops.size).all fun i=>match ops[i]? with | some o=>o.after.toList.all (fun e=>!Region.binds .any e || Nat.blt e.on i) | none=>true
def parted (T:Tab) (ops:Array Oper) (bits:List Nat) (j i:Nat):Bool:=(List.range ops.size).any fun w=>yj T ops w == 2 && zbs bits j w && (Nat.beq w i || zbs bits w i)
def zco (plan:List Do):List Nat:=plan.filterMap fun d=>d.at.map (·.1)
def zbm:List Nat->Nat->List Nat
 | [], _=>[]
 | x :: l, j=>cond (Nat.beq x j) l (zbm l j)
def tmpsOk (T:Tab) (N:Nat) (ops:Array Oper) (bits ord:List Nat):Bool:=
 (List.range ops.size).all fun i=>match ops[i]? with
  | some o=>(match o.dst with
   | some d=>Nat.blt d N && (List.range ops.size).all fun j=>Nat.beq i j || (match ops[j]? with
    | some o'=>o'.dst != some d && (!(o'.looksAt ops).contains d || (zbs bits i j || (parted T ops bits j i || (zbs bits j i && (zbm ord i).all fun m=>zbs bits j m))))
    | none=>true)
   | none=>true) && !(match o.dst with | some d=>(o.looksAt ops).contains d | none=>false)
  | none=>true
def zkj (T:Tab) (N:Nat) (ops:Array Oper) (plan:List Do):Bool:=
 let bits:=befs ops.toList []
 zef ops && tmpsOk T N ops bits (zco plan) && zaq T ops bits plan []
theorem jn {ops:Array Oper} {i:Nat} {o:Oper} (h:ops[i]? = some o):i < ops.size:=(Array.getElem?_eq_some_iff.1 h).1
theorem zkq {ops:Array Oper} (h:zef ops = true) {i:Nat} {o:Oper} (ho:ops[i]? = some o) {e:Edge} (he:e ∈ o.after) (hb:Region.binds .any e = true):e.on < i:=by
 unfold zef at h
 rw [List.all_eq_true] at h
 have:=h i (List.mem_range.2 (jn ho))
 rw [ho] at this
 dsimp only at this
 rw [List.all_eq_true] at this
 have:=this e (Array.mem_toList_iff.2 he)
 rw [hb] at this
 exact Nat.lt_of_succ_le (Nat.le_of_ble_eq_true this)
structure TmpsOk (T:Tab) (N:Lot) (ops:Array Oper) (ord:List Nat):Prop where
 fit:∀ (i:Nat) (o:Oper) (d:Nat), ops[i]? = some o->o.dst = some d->N.has d
 one:∀ (i j:Nat) (o o':Oper) (d:Nat), ops[i]? = some o->ops[j]? = some o'->o.dst = some d->o'.dst = some d->i = j
 self:∀ (i:Nat) (o:Oper) (d:Nat), ops[i]? = some o->o.dst = some d->d ∉ o.looksAt ops
 look:∀ (i j:Nat) (o o':Oper) (d:Nat), ops[i]? = some o->ops[j]? = some o'->o.dst = some d->d ∈ o'.looksAt ops->Bef ops i j ∨ (∃ w, yj T ops w = 2 ∧ Bef ops j w ∧ (w = i ∨ Bef ops w i)) ∨ (Bef ops j i ∧ ∀ m ∈ zbm ord i, Bef ops j m)
theorem tmps_ok {T:Tab} {N:Lot} {ops:Array Oper} {ord:List Nat} (h:tmpsOk T N.n ops (befs ops.toList []) ord = true) (hk:zer (N.kp.map (·.1)) ops = true):TmpsOk T N ops ord:=by
 unfold tmpsOk at h
 rw [List.all_eq_true] at h
 have key:∀ (i:Nat) (o:Oper) (d:Nat), ops[i]? = some o->o.dst = some d->(d < N.n ∧ d ∉ o.looksAt ops) ∧
   ∀ (j:Nat) (o':Oper), ops[j]? = some o'->i ≠ j->o'.dst ≠ some d ∧ (d ∈ o'.looksAt ops->Bef ops i j ∨ (∃ w, yj T ops w = 2 ∧ Bef ops j w ∧ (w = i ∨ Bef ops w i)) ∨ (Bef ops j i ∧ ∀ m ∈ zbm ord i, Bef ops j m)):=by
  intro i o d ho hd
  have h1:=h i (List.mem_range.2 (jn ho))
  rw [ho] at h1
  dsimp only at h1
  rw [hd] at h1
  dsimp only at h1
  rw [Bool.and_eq_true, Bool.and_eq_true, List.all_eq_true] at h1
  refine ⟨⟨Nat.lt_of_succ_le (Nat.le_of_ble_eq_true h1.1.1), fun hm=>?_⟩, fun j o' ho' hne=>?_⟩
  ·have h2:=h1.2
   simp [hm] at h2
  ·have h2:=h1.1.2 j (List.mem_range.2 (jn ho'))
   rw [zab hne, ho'] at h2
   simp only [Bool.false_or, Bool.and_eq_true, bne_iff_ne, ne_eq, Bool.or_eq_true, Bool.not_eq_true', List.contains_eq_mem, decide_eq_false_iff_not] at h2
   refine ⟨h2.1, fun hm=>(h2.2.resolve_left (fun hn=>hn hm)).imp zay fun hp=>hp.imp (fun hp=>?_) fun hp=>⟨zay hp.1, fun m hm=>zay (List.all_eq_true.1 hp.2 m hm)⟩⟩
   unfold parted at hp
   obtain ⟨w, _, hw⟩:=List.any_eq_true.1 hp
   simp only [Bool.and_eq_true, beq_iff_eq, Bool.or_eq_true] at hw
   exact ⟨w, hw.1.1, zay hw.1.2, hw.2.imp Nat.eq_of_beq_eq_true zay⟩
 refine ⟨fun i o d ho hd=>⟨(key i o d ho hd).1.1, keep_ok hk ho hd⟩, fun i j o o' d ho ho' hd hd'=>?_, fun i o d ho hd=>(key i o d ho hd).1.2, fun i j o o' d ho ho' hd hm=>?_⟩
 ·by_cases hne:i = j
  ·exact hne
  ·exact absurd hd' ((key i o d ho hd).2 j o' ho' hne).1
 ·by_cases hne:i = j
  ·subst hne
   rw [ho] at ho'
   cases ho'
   exact absurd hm (key i o d ho hd).1.2
  ·exact ((key i o d ho hd).2 j o' ho' hne).2 hm
theorem ye {T:Tab} {ops:Array Oper} {bits:List Nat} {i:Nat} {l:List Do} {done:List Nat} {d:Do} {b:Bool} (hd:d.at = some (i, b)) (h:zaq T ops bits (d :: l) done = true) :
  ∃ o, ops[i]? = some o ∧ i ∉ done ∧ (∀ e ∈ o.after, Region.binds .any e = true->e.on ∈ done) ∧ (∀ j ∈ done, yj T ops j = 2->zbs bits j i = true) ∧
   (cls T o = 2->∀ j ∈ done, (yj T ops j = 1->zbs bits j i = true ∨ j ∈ zde l) ∧ (yj T ops j = 3->zbs bits j i = true ∨ isApp o = true ∨ b = true)) ∧ zaq T ops bits l (i :: done) = true:=by
 have h:(zka T ops bits i b l done && zaq T ops bits l (i :: done)) = true:=by cases d <;> cases hd <;> exact h
 rw [Bool.and_eq_true] at h
 obtain ⟨h, h5⟩:=h
 unfold zka at h
 cases ho:ops[i]? with
 | none=>rw [ho] at h; cases h
 | some o=>
  rw [ho] at h
  simp only [Bool.and_eq_true, Bool.not_eq_true', List.contains_eq_mem, decide_eq_false_iff_not, List.all_eq_true, Bool.or_eq_true, bne_iff_ne, decide_eq_true_eq] at h
  obtain ⟨⟨⟨h1, h2⟩, h3⟩, h4⟩:=h
  refine ⟨o, rfl, h1, fun e he hb=>(h2 e (Array.mem_toList_iff.2 he)).resolve_left (by rw [hb]; simp), fun j hj hc=>(h3 j hj).resolve_left (fun hn=>hn hc), fun hc j hj=>⟨fun hl=>?_, fun hl=>?_⟩, h5⟩
  ·have:=((h4.resolve_left (fun hn=>hn hc)) j hj).1
   rcases this with (h6 | h6) | h6
   ·exact absurd hl h6
   ·exact .inl h6
   ·exact .inr h6
  ·rcases ((h4.resolve_left (fun hn=>hn hc)) j hj).2 with ((h6 | h6) | h6) | h6
   ·exact absurd hl h6
   ·exact .inl h6
   ·exact .inr (.inl h6)
   ·exact .inr (.inr h6)
theorem zad {T:Tab} {ops:Array Oper} {bits:List Nat} {i j:Nat} (hi:i < ops.size) (hj:yj T ops j = 2):∀ (l:List Do) (done:List Nat),
  zaq T ops bits l done = true->i ∉ done->j ∈ done->zbs bits j i = true
 | [], done, h, hn, _=>by
  simp only [zaq, List.all_eq_true] at h
  have:=h i (List.mem_range.2 hi)
  exact absurd (by simpa using this) hn
 | .op k :: l, done, h, hn, hm=>by
  obtain ⟨o, ho, h1, h2, h3, h4, h5⟩:=ye rfl h
  by_cases hk:k = i
  ·subst hk; exact h3 j hm hj
  ·exact zad hi hj l (k :: done) h5 (by simp; exact ⟨fun e=>hk e.symm, hn⟩) (List.mem_cons_of_mem _ hm)
 | .np k :: l, done, h, hn, hm=>by
  obtain ⟨o, ho, h1, h2, h3, h4, h5⟩:=ye rfl h
  by_cases hk:k = i
  ·subst hk; exact h3 j hm hj
  ·exact zad hi hj l (k :: done) h5 (by simp; exact ⟨fun e=>hk e.symm, hn⟩) (List.mem_cons_of_mem _ hm)
 | .look _ :: l, done, h, hn, hm=>zad hi hj l done h hn hm
 | .expect _ _ :: l, done, h, hn, hm=>zad hi hj l done h hn hm
theorem zbb {T:Tab} {ops:Array Oper} {bits:List Nat} {i:Nat} (hi:i < ops.size):∀ (l:List Do) (done:List Nat), zaq T ops bits l done = true->i ∈ done ∨ i ∈ zco l
 | [], done, h=>by
  simp only [zaq, List.all_eq_true] at h
  exact .inl (by simpa using h i (List.mem_range.2 hi))
 | .op k :: l, done, h=>by
  obtain ⟨o, ho, h1, h2, h3, h4, h5⟩:=ye rfl h
  rcases zbb hi l (k :: done) h5 with hm | hm
  ·rcases List.mem_cons.1 hm with rfl | hm
   ·exact .inr List.mem_cons_self
   ·exact .inl hm
  ·exact .inr (List.mem_cons_of_mem _ hm)
 | .np k :: l, done, h=>by
  obtain ⟨o, ho, h1, h2, h3, h4, h5⟩:=ye rfl h
  rcases zbb hi l (k :: done) h5 with hm | hm
  ·rcases List.mem_cons.1 hm with rfl | hm
   ·exact .inr List.mem_cons_self
   ·exact .inl hm
  ·exact .inr (List.mem_cons_of_mem _ hm)
 | .look _ :: l, done, h=>zbb hi l done h
 | .expect _ _ :: l, done, h=>zbb hi l done h
theorem zlm {d:Do} {i:Nat} {b:Bool} (hd:d.at = some (i, b)) (l:List Do):zco (d :: l) = i :: zco l:=by
 unfold zco
 rw [List.filterMap_cons, hd]; rfl
theorem zfy {j:Nat} {r:List Nat}:∀ {l:List Nat}, j ∉ l->zbm (l ++ j :: r) j = r
 | [], _=>by show cond (Nat.beq j j) r _ = r; simp
 | x :: l, h=>by
  show cond (Nat.beq x j) _ (zbm (l ++ j :: r) j) = r
  rw [zab (fun e=>h (by rw [e]; exact List.mem_cons_self))]
  exact zfy fun hm=>h (List.mem_cons_of_mem _ hm)
theorem zdv {α:Type} {T:Tab} {call:Call α} {ρ:Frame} {o:Oper} {K E:V->M α} {h:H} {out:α} (hp:zbd T o.op = true) (e:zi T call ρ o K E h = some out) :
  ∃ v, K v h = some out ∧ ∀ (β:Type) (c:Call β) (K' E':V->M β) (h':H), zi T c ρ o K' E' h' = K' v h':=by
 obtain ⟨r, hr⟩:=zkz (ρ:=ρ) hp
 cases r with
 | none=>have:=(hr α call K E h).symm.trans e; cases this
 | some v=>exact ⟨v, (hr α call K E h).symm.trans e, fun β c K' E' h'=>hr β c K' E' h'⟩
theorem zml {α:Type} {s:Sh} {v:V} {K:V->M α} {h:H} {out:α} (e:asSh s v K h = some out):∀ (β:Type) (K':V->M β), asSh s v K' h = K' v h:=by
 intro β K'
 cases s <;> simp only [asSh] at e ⊢
 ·obtain ⟨n, rfl, _⟩:=zk e
  clear e
  rename_i k _
  cases k <;> rfl
 ·obtain ⟨n, rfl, _⟩:=zem e; rfl
 ·obtain ⟨n, rfl, _⟩:=zbn e; rfl
 ·obtain ⟨n, rfl, _⟩:=jz e; rfl
 ·obtain ⟨n, rfl, _⟩:=jm e; rfl
 ·obtain ⟨n, rfl, _⟩:=zcd e; rfl
theorem zcz {α:Type} {a:Ad} {h:H} {out:α}:∀ {ss:List Sh} {i:Nat} {K:List V->M α}, yz a i ss K h = some out ->
  ∃ vs, K vs h = some out ∧ ∀ (β:Type) (K':List V->M β), yz a i ss K' h = K' vs h
 | [], i, K, e=>⟨[], e, fun _ _=>rfl⟩
 | s :: ss, i, K, e=>by
  simp only [yz, ldSh] at e ⊢
  obtain ⟨v, hv, e1⟩:=ld_inv e
  have e2:=zch e1
  obtain ⟨vs, h1, h2⟩:=zcz (K:=fun vs=>K (v :: vs)) e2
  refine ⟨v :: vs, h1, fun β K'=>?_⟩
  unfold ld
  rw [hv]
  dsimp only
  rw [zml e1 β]
  exact h2 β _
theorem zkp {α:Type} {b:Bool} {cs:List V} {K:V->M α} {h:H} {out:α} (e:mk b cs K h = some out) :
  ∃ v, (if b then v = .agg cs else cs = [v]) ∧ K v h = some out ∧ ∀ (β:Type) (K':V->M β) (h':H), mk b cs K' h' = K' v h':=by
 obtain ⟨v, hv, e1⟩:=zfc e
 refine ⟨v, hv, e1, fun β K' h'=>?_⟩
 cases b
 ·simp only [Bool.false_eq_true, if_false] at hv
  subst hv; rfl
 ·simp only [if_true] at hv
  subst hv; rfl
theorem zhv {α:Type} {T:Tab} {call:Call α} {ρ:Frame} {o:Oper} {K E:V->M α} {h:H} {out:α} {t:TypeId} {x:Operand} (hp:o.op = .load t x) (e:zi T call ρ o K E h = some out) :
  ∃ v p i vs, ev T ρ x = .ptr (some p) ∧ T.ti t = some i ∧ (∀ (β:Type) (K':List V->M β), yz p 0 i.sh K' h = K' vs h) ∧ (if i.agg then v = .agg vs else vs = [v]) ∧ K v h = some out ∧
   ∀ (β:Type) (c:Call β) (K' E':V->M β), zi T c ρ o K' E' h = K' v h:=by
 simp only [zi, hp] at e ⊢
 obtain ⟨p, hp, e⟩:=jz e
 obtain ⟨p, rfl, e⟩:=jk e
 cases hi:T.ti t with
 | none=>rw [hi] at e; cases e
 | some i=>
  rw [hi] at e
  dsimp only at e
  obtain ⟨vs, e1, hl⟩:=zcz e
  obtain ⟨v, hv, e2, hm⟩:=zkp e1
  refine ⟨v, p, i, vs, hp, rfl, hl, hv, e2, fun β c K' E'=>?_⟩
  rw [hp]
  show yz p 0 i.sh (fun cs=>mk i.agg cs K') h = K' v h
  rw [hl]; exact hm β K' h
theorem zho {α:Type} {a:Ad} {h:H} {out:α} {b:Blk} (hdom:∀ i c, h.get i = some c->i < h.next):∀ {ss:List Sh} {i:Nat} {K:List V->M α}, yz a i ss K h = some out ->
  ∃ vs, (∀ (β:Type) (K':List V->M β), yz a i ss K' h = K' vs h) ∧ ∀ (β:Type) (K':List V->M β), yz a i ss K' (h.push b) = K' vs (h.push b)
 | [], i, K, e=>⟨[], fun _ _=>rfl, fun _ _=>rfl⟩
 | s :: ss, i, K, e=>by
  simp only [yz, ldSh] at e ⊢
  obtain ⟨v, hv, e1⟩:=ld_inv e
  have e2:=zch e1
  obtain ⟨vs, h1, h2⟩:=zho (b:=b) hdom (K:=fun vs=>K (v :: vs)) e2
  have hv':(h.push b).cell (a.add i) = some v:=by
   unfold H.cell at hv ⊢
   cases hg:h.get (a.add i).id with
   | none=>rw [hg] at hv; cases hv
   | some c=>
    rw [yd, if_neg (by have:=hdom _ c hg; omega), hg]
    rw [hg] at hv
    exact hv
  have hsh:∀ (β:Type) (K':V->M β) (g:H), asSh s v K' g = K' v g:=by
   intro β K' g
   clear h1 h2 e2 hv hv' e
   cases s <;> simp only [asSh] at e1 ⊢
   ·obtain ⟨n, rfl, _⟩:=zk e1
    clear e1
    rename_i k _
    cases k <;> rfl
   ·obtain ⟨n, rfl, _⟩:=zem e1; rfl
   ·obtain ⟨n, rfl, _⟩:=zbn e1; rfl
   ·obtain ⟨n, rfl, _⟩:=jz e1; rfl
   ·obtain ⟨n, rfl, _⟩:=jm e1; rfl
   ·obtain ⟨n, rfl, _⟩:=zcd e1; rfl
  refine ⟨v :: vs, fun β K'=>?_, fun β K'=>?_⟩
  ·unfold ld
   rw [hv]
   dsimp only
   rw [hsh β]
   exact h1 β _
  ·unfold ld
   rw [hv']
   dsimp only
   rw [hsh β]
   exact h2 β _
theorem load_push {α:Type} {T:Tab} {call:Call α} {ρ:Frame} {o:Oper} {K E:V->M α} {h:H} {out:α} {t:TypeId} {x:Operand} {b:Blk} (hdom:∀ i c, h.get i = some c->i < h.next) (hp:o.op = .load t x) (e:zi T call ρ o K E h = some out) :
  ∃ v, (∀ (β:Type) (c:Call β) (K' E':V->M β), zi T c ρ o K' E' h = K' v h) ∧ ∀ (β:Type) (c:Call β) (K' E':V->M β), zi T c ρ o K' E' (h.push b) = K' v (h.push b):=by
 simp only [zi, hp] at e ⊢
 obtain ⟨p, hp, e⟩:=jz e
 obtain ⟨p, rfl, e⟩:=jk e
 cases hi:T.ti t with
 | none=>rw [hi] at e; cases e
 | some i=>
  rw [hi] at e
  dsimp only at e
  obtain ⟨vs, hl, hl'⟩:=zho (b:=b) hdom e
  have e:yz p 0 i.sh (fun cs=>mk i.agg cs K) h = some out:=e
  rw [hl] at e
  obtain ⟨v, hv, e2, hm⟩:=zkp e
  refine ⟨v, fun β c K' E'=>?_, fun β c K' E'=>?_⟩
  ·rw [hp]
   show yz p 0 i.sh (fun cs=>mk i.agg cs K') h = K' v h
   rw [hl]; exact hm β K' h
  ·rw [hp]
   show yz p 0 i.sh (fun cs=>mk i.agg cs K') (h.push b) = K' v (h.push b)
   rw [hl']; exact hm β K' _
def mvV (m:Option (Nat × Nat)) (x:Nat):V:=match m with | some (l, c)=>.slice ⟨some ⟨x, 0⟩, l, c, none⟩ | none=>.ptr (some ⟨x, 0⟩)
theorem zlc {α:Type} {T:Tab} {call:Call α} {ρ:Frame} {o:Oper} {K E:V->M α} {h:H} {out:α} (hp:cls T o = 3) (e:zi T call ρ o K E h = some out) :
  ∃ cs m, K (mvV m h.next) (h.push (.cells cs true)) = some out ∧ cs.all oneV = true ∧
   ∀ (β:Type) (cl:Call β) (K' E':V->M β) (g:H), zi T cl ρ o K' E' g = K' (mvV m g.next) (g.push (.cells cs true)):=by
 unfold cls at hp
 cases hpure:zbd T o.op with
 | true=>rw [hpure] at hp; cases hp
 | false=>
 rw [hpure] at hp
 simp only [cond_false] at hp
 cases ho:o.op <;> rw [ho] at hp <;> first | (cases hp; done) | skip
 case alloc t=>
  dsimp only at hp
  simp only [zi, ho] at e ⊢
  cases hs:T.spec t with
  | true=>rw [hs] at hp; cases hp
  | false=>
  cases hi:T.ti t with
  | none=>rw [hi] at e; cases e
  | some i=>
  rw [hi, hs] at e
  simp only [cond_false] at e ⊢
  unfold new at e ⊢
  obtain ⟨h5, e⟩:=zg e
  refine ⟨_, none, e, h5, fun β cl K' E' g=>?_⟩
  rw [h5]
  rfl
 case makeSlice t l c=>
  clear hp
  simp only [zi, ho] at e ⊢
  cases hi:T.ti t with
  | none=>rw [hi] at e; cases e
  | some i=>
  rw [hi] at e
  obtain ⟨und, a1, a2, z, a4, a5, a6⟩:=i
  cases und <;> dsimp only at e <;> first | (cases e; done) | skip
  rename_i el
  cases hj:T.ti el with
  | none=>rw [hj] at e; cases e
  | some i=>
  rw [hj] at e
  generalize ev T ρ l = u at e
  generalize ev T ρ c = u' at e
  cases u <;> cases u' <;> first | (cases e; done) | skip
  dsimp only at e ⊢
  unfold mkSl at e ⊢
  obtain ⟨h1, e⟩:=zg e
  obtain ⟨h2, e⟩:=zg e
  obtain ⟨h3, e⟩:=zg e
  obtain ⟨h4, e⟩:=zg e
  obtain ⟨h5, e⟩:=zg e
  refine ⟨_, some (_, _), e, zkd h5, fun β cl K' E' g=>?_⟩
  rw [hj]
  dsimp only
  rw [h1, h2, h3, h4, h5]
  rfl
 case buildSlice t n ps=>
  clear hp
  simp only [zi, ho] at e ⊢
  cases hi:T.ti t with
  | none=>rw [hi] at e; cases e
  | some i=>
  rw [hi] at e
  obtain ⟨und, a1, a2, z, a4, a5, a6⟩:=i
  cases und <;> dsimp only at e <;> first | (cases e; done) | skip
  rename_i el
  cases hj:T.ti el with
  | none=>rw [hj] at e; cases e
  | some i=>
  rw [hj] at e
  dsimp only at e
  obtain ⟨h1, e⟩:=zg e
  obtain ⟨rr, hr⟩:=PG.fillL (fun q=>some (q * i.size, i.size)) (ps.toList.map fun (i, x)=>(i, Ab.ev T ρ x)) (rep n i.zero)
  have e':=(hr α _ h).symm.trans e
  cases rr with
  | none=>cases e'
  | some cs=>
  dsimp only at e'
  obtain ⟨h2, e'⟩:=zg e'
  obtain ⟨h3, e'⟩:=zg e'
  refine ⟨cs, some (_, _), e', h3, fun β cl K' E' g=>?_⟩
  dsimp only
  rw [hj]
  dsimp only
  rw [h1]
  refine (hr β _ g).trans ?_
  dsimp only
  rw [h2]
  unfold new
  rw [h3]
  rfl
theorem made_ids {P:Program} {T:Tab} {ι:Io} {X:Nat->Prop} {h:H} {ρ:Frame} {o:Oper} {ρ':Operand->Value} (hT:TabOk P T) (hp:cls T o = 3) (hρ:∀ x, VR ι (okOf h X) (ev T ρ x) (ρ' x))
  {cs:List V} {v:V} (e:zi T (fun _ _ _=>fail) ρ o (fun v h=>some (v, h)) (fun _ _=>none) h = some (v, h.push (.cells cs true))):∃ xs, VRL ι (okOf h X) cs xs:=by
 have key:∀ cs':List V, h.push (.cells cs' true) = h.push (.cells cs true)->cs' = cs:=by
  intro cs' hh
  have:=congrArg (fun g=>g.get h.next) hh
  simp only [yd, if_true, Option.some.injEq, Blk.cells.injEq, and_true] at this
  exact this
 unfold cls at hp
 cases hpure:zbd T o.op with
 | true=>rw [hpure] at hp; cases hp
 | false=>
 rw [hpure] at hp
 simp only [cond_false] at hp
 cases ho:o.op <;> rw [ho] at hp <;> first | (cases hp; done) | skip
 case alloc t=>
  dsimp only at hp
  simp only [zi, ho] at e
  cases hs:T.spec t with
  | true=>rw [hs] at hp; cases hp
  | false=>
  cases hi:T.ti t with
  | none=>rw [hi] at e; cases e
  | some i=>
  rw [hi, hs] at e
  simp only [cond_false] at e
  unfold new at e
  obtain ⟨h5, e⟩:=zg e
  have e:=congrArg Prod.snd (Option.some.inj e)
  obtain ⟨inf, z, _, _, _, _, hz, _⟩:=(hT.ti _ _ hi).info
  rw [← key _ e]
  exact ⟨_, hz _ _⟩
 case makeSlice t l c=>
  clear hp
  simp only [zi, ho] at e
  cases hi:T.ti t with
  | none=>rw [hi] at e; cases e
  | some i=>
  rw [hi] at e
  obtain ⟨und, a1, a2, z, a4, a5, a6⟩:=i
  cases und <;> dsimp only at e <;> first | (cases e; done) | skip
  rename_i el
  cases hj:T.ti el with
  | none=>rw [hj] at e; cases e
  | some i=>
  rw [hj] at e
  generalize ev T ρ l = u at e
  generalize ev T ρ c = u' at e
  cases u <;> cases u' <;> first | (cases e; done) | skip
  dsimp only at e
  unfold mkSl at e
  obtain ⟨h1, e⟩:=zg e
  obtain ⟨h2, e⟩:=zg e
  obtain ⟨h3, e⟩:=zg e
  obtain ⟨h4, e⟩:=zg e
  obtain ⟨h5, e⟩:=zg e
  have e:=congrArg Prod.snd (Option.some.inj e)
  obtain ⟨inf, z, _, _, _, _, hz, _⟩:=(hT.ti _ _ hj).info
  rw [← key _ e]
  exact ⟨_, zdi (hz ι (okOf h X)) _⟩
 case buildSlice t n ps=>
  clear hp
  simp only [zi, ho] at e
  cases hi:T.ti t with
  | none=>rw [hi] at e; cases e
  | some i=>
  rw [hi] at e
  obtain ⟨und, a1, a2, z, a4, a5, a6⟩:=i
  cases und <;> dsimp only at e <;> first | (cases e; done) | skip
  rename_i el
  cases hj:T.ti el with
  | none=>rw [hj] at e; cases e
  | some i=>
  rw [hj] at e
  dsimp only at e
  obtain ⟨h1, e⟩:=zg e
  obtain ⟨inf, z, _, _, _, _, hz, _⟩:=(hT.ti _ _ hj).info
  obtain ⟨cs', xs', e2, _, _, _, hv⟩:=zeo (q:=fun j=>some (j * i.size, i.size)) hρ (fun i a ha=>ha) ps.toList _ _ (zdi (hz ι (okOf h X)) n) e
  obtain ⟨_, e2⟩:=zg e2
  unfold new at e2
  obtain ⟨_, e2⟩:=zg e2
  have e2:=congrArg Prod.snd (Option.some.inj e2)
  rw [← key _ e2]
  exact ⟨_, hv⟩
theorem zbj {f:V->V->Bool} (h:∀ v w, f v w = true->v = w):∀ (a b:List V), zcg f a b = true->a = b
 | [], [], _=>rfl
 | x :: xs, y :: ys, e=>by
  simp only [zcg, Bool.and_eq_true] at e
  rw [h x y e.1, zbj h xs ys e.2]
 | [], _ :: _, e=>by cases e
 | _ :: _, [], e=>by cases e
theorem yv:∀ (d:Nat) (v w:V), zar d v w = true->v = w
 | 0, _, _, e=>by cases e
 | d + 1, v, w, e=>by
  cases v <;> cases w <;> first | (cases e; done) | rfl | skip
  all_goals simp only [zar, Bool.and_eq_true] at e
  ·rw [of_decide_eq_true e]
  ·rw [zbe e.1, of_decide_eq_true e.2]
  ·rw [of_decide_eq_true e]
  ·rw [of_decide_eq_true e]
  ·rw [of_decide_eq_true e]
  ·rw [of_decide_eq_true e]
  ·rw [Nat.eq_of_beq_eq_true e.1, zbj (yv d) _ _ e.2.1, zbj (yv d) _ _ e.2.2]
  ·rw [Nat.eq_of_beq_eq_true e.1, yv d _ _ e.2]
  ·rw [zbj (yv d) _ _ e]
  ·rw [zbj (yv d) _ _ e]
theorem zja {α:Type} {h:H} {out:α}:∀ {v w:V} {K:M α}, zcy v w K h = some out->v = w ∧ K h = some out
 | .nilIface, w, K, e=>by cases w <;> first | exact ⟨rfl, e⟩ | cases e
 | .nilFunc, w, K, e=>by cases w <;> first | exact ⟨rfl, e⟩ | cases e
 | .iface t a, .iface u b, K, e=>by
  simp only [zcy] at e
  obtain ⟨h1, e⟩:=zg e
  obtain ⟨h2, e⟩:=zja e
  exact ⟨by rw [Nat.eq_of_beq_eq_true h1, h2], e⟩
 | .int j a, .int k b, K, e=>by
  simp only [zcy] at e
  obtain ⟨h1, e⟩:=zg e
  rw [Bool.and_eq_true] at h1
  exact ⟨by rw [zbe h1.1, of_decide_eq_true h1.2], e⟩
 | .bool a, .bool b, K, e=>by simp only [zcy] at e; obtain ⟨h1, e⟩:=zg e; exact ⟨by rw [of_decide_eq_true h1], e⟩
 | .str a, .str b, K, e=>by simp only [zcy] at e; obtain ⟨h1, e⟩:=zg e; exact ⟨by rw [of_decide_eq_true h1], e⟩
 | .ptr a, .ptr b, K, e=>by simp only [zcy] at e; obtain ⟨h1, e⟩:=zg e; exact ⟨by rw [of_decide_eq_true h1], e⟩
 | .slice a, .slice b, K, e=>by simp only [zcy] at e; obtain ⟨h1, e⟩:=zg e; exact ⟨by rw [of_decide_eq_true h1], e⟩
 | .map a, .map b, K, e=>by simp only [zcy] at e; obtain ⟨h1, e⟩:=zg e; exact ⟨by rw [of_decide_eq_true h1], e⟩
 | .undef, w, K, e=>by cases w <;> cases e
 | .func f a b, w, K, e=>by
  cases w <;> first | (cases e; done) | skip
  simp only [zcy] at e
  obtain ⟨h1, e⟩:=zg e
  exact ⟨yv 3 _ _ h1, e⟩
 | .agg _, w, K, e=>by cases w <;> cases e
 | .tuple _, w, K, e=>by cases w <;> cases e
 | .iface _ _, .undef, K, e=>by cases e
 | .iface _ _, .bool _, K, e=>by cases e
 | .iface _ _, .int _ _, K, e=>by cases e
 | .iface _ _, .str _, K, e=>by cases e
 | .iface _ _, .ptr _, K, e=>by cases e
 | .iface _ _, .slice _, K, e=>by cases e
 | .iface _ _, .map _, K, e=>by cases e
 | .iface _ _, .func _ _ _, K, e=>by cases e
 | .iface _ _, .nilFunc, K, e=>by cases e
 | .iface _ _, .nilIface, K, e=>by cases e
 | .iface _ _, .agg _, K, e=>by cases e
 | .iface _ _, .tuple _, K, e=>by cases e
 | .int _ _, .undef, K, e=>by cases e
 | .int _ _, .bool _, K, e=>by cases e
 | .int _ _, .str _, K, e=>by cases e
 | .int _ _, .ptr _, K, e=>by cases e
 | .int _ _, .slice _, K, e=>by cases e
 | .int _ _, .map _, K, e=>by cases e
 | .int _ _, .func _ _ _, K, e=>by cases e
 | .int _ _, .nilFunc, K, e=>by cases e
 | .int _ _, .iface _ _, K, e=>by cases e
 | .int _ _, .nilIface, K, e=>by cases e
 | .int _ _, .agg _, K, e=>by cases e
 | .int _ _, .tuple _, K, e=>by cases e
 | .bool _, .undef, K, e=>by cases e
 | .bool _, .int _ _, K, e=>by cases e
 | .bool _, .str _, K, e=>by cases e
 | .bool _, .ptr _, K, e=>by cases e
 | .bool _, .slice _, K, e=>by cases e
 | .bool _, .map _, K, e=>by cases e
 | .bool _, .func _ _ _, K, e=>by cases e
 | .bool _, .nilFunc, K, e=>by cases e
 | .bool _, .iface _ _, K, e=>by cases e
 | .bool _, .nilIface, K, e=>by cases e
 | .bool _, .agg _, K, e=>by cases e
 | .bool _, .tuple _, K, e=>by cases e
 | .str _, .undef, K, e=>by cases e
 | .str _, .bool _, K, e=>by cases e
 | .str _, .int _ _, K, e=>by cases e
 | .str _, .ptr _, K, e=>by cases e
 | .str _, .slice _, K, e=>by cases e
 | .str _, .map _, K, e=>by cases e
 | .str _, .func _ _ _, K, e=>by cases e
 | .str _, .nilFunc, K, e=>by cases e
 | .str _, .iface _ _, K, e=>by cases e
 | .str _, .nilIface, K, e=>by cases e
 | .str _, .agg _, K, e=>by cases e
 | .str _, .tuple _, K, e=>by cases e
 | .ptr _, .undef, K, e=>by cases e
 | .ptr _, .bool _, K, e=>by cases e
 | .ptr _, .int _ _, K, e=>by cases e
 | .ptr _, .str _, K, e=>by cases e
 | .ptr _, .slice _, K, e=>by cases e
 | .ptr _, .map _, K, e=>by cases e
 | .ptr _, .func _ _ _, K, e=>by cases e
 | .ptr _, .nilFunc, K, e=>by cases e
 | .ptr _, .iface _ _, K, e=>by cases e
 | .ptr _, .nilIface, K, e=>by cases e
 | .ptr _, .agg _, K, e=>by cases e
 | .ptr _, .tuple _, K, e=>by cases e
 | .slice _, .undef, K, e=>by cases e
 | .slice _, .bool _, K, e=>by cases e
 | .slice _, .int _ _, K, e=>by cases e
 | .slice _, .str _, K, e=>by cases e
 | .slice _, .ptr _, K, e=>by cases e
 | .slice _, .map _, K, e=>by cases e
 | .slice _, .func _ _ _, K, e=>by cases e
 | .slice _, .nilFunc, K, e=>by cases e
 | .slice _, .iface _ _, K, e=>by cases e
 | .slice _, .nilIface, K, e=>by cases e
 | .slice _, .agg _, K, e=>by cases e
 | .slice _, .tuple _, K, e=>by cases e
 | .map _, .undef, K, e=>by cases e
 | .map _, .bool _, K, e=>by cases e
 | .map _, .int _ _, K, e=>by cases e
 | .map _, .str _, K, e=>by cases e
 | .map _, .ptr _, K, e=>by cases e
 | .map _, .slice _, K, e=>by cases e
 | .map _, .func _ _ _, K, e=>by cases e
 | .map _, .nilFunc, K, e=>by cases e
 | .map _, .iface _ _, K, e=>by cases e
 | .map _, .nilIface, K, e=>by cases e
 | .map _, .agg _, K, e=>by cases e
 | .map _, .tuple _, K, e=>by cases e
theorem zix {α:Type} {h:H} {out:α}:∀ {vs ws:List V} {K:M α}, zfo vs ws K h = some out->vs = ws ∧ K h = some out
 | [], [], K, e=>⟨rfl, e⟩
 | v :: vs, w :: ws, K, e=>by
  obtain ⟨h1, e1⟩:=zja e
  obtain ⟨h2, e2⟩:=zix e1
  exact ⟨by rw [h1, h2], e2⟩
 | [], _ :: _, _, e=>by cases e
 | _ :: _, [], _, e=>by cases e
def zhw (T:Tab) (ρ:Frame) (h:H) (o:Oper):Prop:=
 ∃ t x d, o.op = .load t x ∧ o.dst = some d ∧ (ρ d = .tuple [] ∨ ∃ p i, ev T ρ x = .ptr (some p) ∧ T.ti t = some i ∧ ∀ (β:Type) (K':List V->M β), yz p 0 i.sh K' h = K' (ρ d).cells h)
theorem zmo {α:Type} {T:Tab} {ρ:Frame} {o:Oper} {K:M α} {h:H} {out:α} (e:zjf T ρ o K h = some out):zhw T ρ h o ∧ K h = some out:=by
 unfold zjf at e
 cases hd:o.dst with
 | none=>cases ho:o.op <;> rw [hd, ho] at e <;> cases e
 | some d=>
 cases ho:o.op <;> rw [hd, ho] at e <;> first | (cases e; done) | skip
 case load t x=>
  dsimp only at e
  by_cases hu:ρ d = .tuple []
  ·rw [hu] at e
   exact ⟨⟨t, x, d, ho, hd, .inl hu⟩, e⟩
  ·have e':(asP (ev T ρ x) fun p=>asSome p fun p=>(match T.ti t with
     | some i=>yz p 0 i.sh fun cs=>zfo (ρ d).cells cs K
     | none=>fail)) h = some out:=by
    unfold zdg at e
    generalize ρ d = u at e hu
    cases u <;> first | exact e | skip
    rename_i vs
    cases vs
    ·exact absurd rfl hu
    ·exact e
   obtain ⟨p, hp, e1⟩:=jz e'
   obtain ⟨p, rfl, e2⟩:=jk e1
   cases hi:T.ti t with
   | none=>rw [hi] at e2; cases e2
   | some i=>
    rw [hi] at e2
    dsimp only at e2
    obtain ⟨vs, e3, hl⟩:=zcz e2
    obtain ⟨rfl, e4⟩:=zix e3
    exact ⟨⟨t, x, d, ho, hd, .inr ⟨p, i, hp, hi, hl⟩⟩, e4⟩
theorem zex {α:Type} {h:H} {out:α}:∀ {n:Nat} {l:List V} {K:List V->M α}, asLen n l K h = some out->K l h = some out
 | 0, [], K, e=>e
 | 0, _ :: _, K, e=>by cases e
 | n + 1, [], K, e=>by cases e
 | n + 1, x :: xs, K, e=>zex (K:=fun ys=>K (x :: ys)) e
theorem zfj {α:Type} {ρ:Frame} {t f:Nat} {a b:List V} {K:Frame->M α} {h:H} {out:α} (hρ:ρ t = .func f a b):∀ {fs:List (Nat × Nat × Nat)}, zec ρ t f a b K fs h = some out->K ρ h = some out
 | [], e=>by cases e
 | (g, n, m) :: r, e=>by
  simp only [zec] at e
  cases hf:Nat.beq f g with
  | false=>rw [hf] at e; exact zfj hρ e
  | true=>
   rw [hf] at e
   have hf:=Nat.eq_of_beq_eq_true hf
   subst hf
   simp only [cond_true] at e
   have e2:=zex (zex e)
   rwa [set_same hρ] at e2
section
variable {α:Type} {T:Tab} {call:Call α} {ops:Array Oper} {K:Frame->M α} {E:V->M α} {ρ:Frame} {h:H} {out:α}
theorem zcb {t:Nat} {fs:List (Nat × Nat × Nat)} {l:List Do} (e:jw T call ops (.expect t fs :: l) ρ K E h = some out):jw T call ops l ρ K E h = some out:=by
 simp only [jw] at e
 unfold zbc at e
 generalize hρ:ρ t = u at e
 cases u with
 | func f a b=>exact zfj hρ e
 | _=>cases e
theorem zcv {i:Nat} {l:List Do} (e:jw T call ops (.look i :: l) ρ K E h = some out):(∃ o, ops[i]? = some o ∧ zhw T ρ h o) ∧ jw T call ops l ρ K E h = some out:=by
 simp only [jw] at e
 cases ho:ops[i]? with
 | none=>rw [ho] at e; cases e
 | some o=>
  rw [ho] at e
  obtain ⟨h1, h2⟩:=zmo e
  exact ⟨⟨o, rfl, h1⟩, h2⟩
theorem zeh:∀ {l:List Do}, jw T call ops l ρ K E h = some out->∀ i ∈ zde l, ∃ o, ops[i]? = some o ∧ zhw T ρ h o
 | [], _, i, hi=>by cases hi
 | .op _ :: _, _, i, hi=>by cases hi
 | .np _ :: _, _, i, hi=>by cases hi
 | .expect _ _ :: _, _, i, hi=>by cases hi
 | .look j :: l, e, i, hi=>by
  obtain ⟨h1, h2⟩:=zcv e
  cases hi with
  | head=>exact h1
  | tail _ hi=>exact zeh h2 i hi
def zah (ops:Array Oper) (o:Oper) (ρ:Frame):Option Bool:=
 match o.guard with
 | none=>some true
 | some (j, want)=>(match zbv ops j with
  | none=>none
  | some t=>(match ρ t with
   | .bool g=>some (g == want)
   | .tuple []=>some false
   | _=>none))
noncomputable def panE (b:Bool) (E:V->M α):V->M α:=fun v=>cond b fail (E v)
theorem zii {i:Nat} {l:List Do} {d:Do} {b:Bool} (hd:d.at = some (i, b)) (e:jw T call ops (d :: l) ρ K E h = some out):∃ o, ops[i]? = some o ∧
  ((zah ops o ρ = some true ∧ zi T call ρ o (fun v=>jw T call ops l (ρ.put o.dst v) K E) (panE b E) h = some out) ∨
   (zah ops o ρ = some false ∧ jw T call ops l (ρ.put o.dst (.tuple [])) K E h = some out)):=by
 have e:(match ops[i]? with | some o=>zal T call ops [o] ρ (fun ρ=>jw T call ops l ρ K E) (panE b E) | none=>fail) h = some out:=by cases d <;> cases hd <;> exact e
 cases ho:ops[i]? with
 | none=>rw [ho] at e; cases e
 | some o=>
  rw [ho] at e
  refine ⟨o, rfl, ?_⟩
  simp only [zal] at e
  unfold zah
  cases hg:o.guard with
  | none=>rw [hg] at e; exact .inl ⟨rfl, e⟩
  | some gw=>
   obtain ⟨j, want⟩:=gw
   rw [hg] at e
   dsimp only at e ⊢
   cases ht:zbv ops j with
   | none=>rw [ht] at e; cases e
   | some t=>
    rw [ht] at e
    dsimp only at e ⊢
    generalize hρt:ρ t = u at e
    cases u with
    | bool g=>
     dsimp only at e ⊢
     have hs:=set_same hρt
     have e':cond (g == want) (zi T call ρ o (fun v=>jw T call ops l (ρ.put o.dst v) K E) (panE b E)) (jw T call ops l (ρ.put o.dst (.tuple [])) K E) h = some out:=by
      cases g
      ·simpa [zif, hs] using e
      ·simpa [zif, hs] using e
     cases hq:(g == want) with
     | true=>rw [hq] at e'; exact .inl ⟨rfl, e'⟩
     | false=>rw [hq] at e'; exact .inr ⟨rfl, e'⟩
    | tuple vs=>
     cases vs with
     | nil=>exact .inr ⟨rfl, e⟩
     | cons _ _=>cases e
    | _=>cases e
end
end Go.Ab
