import Derived.Test.YtmanohnlcedeaaaDoorAb18
import Derived.Orders
set_option linter.unusedVariables false
set_option linter.unusedSimpArgs false
namespace Go.Ab
inductive Bef (ops:Array Oper):Nat->Nat->Prop
 | one {j:Nat} {o:Oper} {e:Edge}:ops[j]? = some o->e ∈ o.after->Region.binds .any e = true->Bef ops e.on j
 | cons {i j:Nat} {o:Oper} {e:Edge}:ops[j]? = some o->e ∈ o.after->Region.binds .any e = true->Bef ops i e.on->Bef ops i j
def befAt (acc:List Nat) (l:List Edge):Nat:=l.foldl (fun s e=>cond (Region.binds .any e) (s ||| (2 ^ e.on ||| (acc[e.on]?).getD 0)) s) 0
def befs:List Oper->List Nat->List Nat
 | [], acc=>acc
 | o :: os, acc=>befs os (acc ++ [befAt acc o.after.toList])
theorem zmu (acc:List Nat) (i:Nat):∀ (l:List Edge) (s:Nat),
  (l.foldl (fun s e=>cond (Region.binds .any e) (s ||| (2 ^ e.on ||| (acc[e.on]?).getD 0)) s) s).testBit i = true ->
   s.testBit i = true ∨ ∃ e ∈ l, Region.binds .any e = true ∧ (e.on = i ∨ ((acc[e.on]?).getD 0).testBit i = true)
 | [], s, h=>.inl h
 | e :: l, s, h=>by
  simp only [List.foldl_cons] at h
  rcases zmu acc i l _ h with h | ⟨e', he, hb, h⟩
  ·cases hb:Region.binds .any e with
   | false=>rw [hb] at h; exact .inl h
   | true=>
    rw [hb] at h
    simp only [cond_true, Nat.testBit_or, Bool.or_eq_true] at h
    rcases h with h | h | h
    ·exact .inl h
    ·refine .inr ⟨e, List.mem_cons_self, hb, .inl ?_⟩
     rw [Nat.testBit_two_pow] at h
     exact of_decide_eq_true h
    ·exact .inr ⟨e, List.mem_cons_self, hb, .inr h⟩
  ·exact .inr ⟨e', List.mem_cons_of_mem _ he, hb, h⟩
theorem zqh {ops:Array Oper}:∀ (rest done:List Oper) (acc:List Nat), ops.toList = done ++ rest->acc.length = done.length ->
  (∀ j b i, acc[j]? = some b->b.testBit i = true->Bef ops i j)->∀ (j b i:Nat), (befs rest acc)[j]? = some b->b.testBit i = true->Bef ops i j
 | [], _, _, _, _, h=>h
 | o :: os, done, acc, ho, hl, h=>by
  refine zqh os (done ++ [o]) (acc ++ [befAt acc o.after.toList]) (by rw [ho]; simp) (by simp [hl]) ?_
  intro j b i hj hb
  by_cases hlt:j < acc.length
  ·rw [List.getElem?_append_left hlt] at hj; exact h j b i hj hb
  ·have hje:j = acc.length:=by
    rcases Nat.lt_or_ge acc.length j with h1 | h1
    ·rw [List.getElem?_eq_none (by simp; omega)] at hj; cases hj
    ·omega
   subst hje
   rw [List.getElem?_append_right (Nat.le_refl _)] at hj
   simp at hj
   subst hj
   have hoj:ops[acc.length]? = some o:=by
    rw [← Array.getElem?_toList, ho, hl, List.getElem?_append_right (Nat.le_refl _)]
    simp
   rcases zmu acc i _ 0 hb with h0 | ⟨e, he, hbi, h0⟩
   ·simp at h0
   ·have he:=Array.mem_toList_iff.1 he
    rcases h0 with rfl | h0
    ·exact .one hoj he hbi
    ·cases ha:acc[e.on]? with
     | none=>rw [ha] at h0; simp at h0
     | some b'=>rw [ha] at h0; exact .cons hoj he hbi (h _ b' i ha h0)
def zfb (bits:List Nat) (i j:Nat):Bool:=((bits[j]?).getD 0).testBit i
theorem zek {ops:Array Oper} {i j:Nat} (h:zfb (befs ops.toList []) i j = true):Bef ops i j:=by
 unfold zfb at h
 cases hj:(befs ops.toList [])[j]? with
 | none=>rw [hj] at h; simp at h
 | some b=>rw [hj] at h; exact zqh ops.toList [] [] rfl rfl (by simp) j b i hj h
def cls (T:Tab) (o:Oper):Nat:=cond (zcx T o.op) 0 (match o.op with
 | .load ..=>1
 | .makeSlice t _ _=>(match T.ti t with
  | some ⟨.slice e, _, _, _, _, _, _⟩=>(match T.ti e with | some i=>cond (i.zero.all zfx) 3 2 | none=>2)
  | _=>2)
 | _=>2)
def zah (T:Tab) (ops:Array Oper) (i:Nat):Nat:=match ops[i]? with | some o=>cls T o | none=>2
def zfr:List Do->List Nat
 | .look i :: l=>i :: zfr l
 | _=>[]
def zcw (T:Tab) (ops:Array Oper) (bits:List Nat):List Do->List Nat->Bool
 | [], done=>(List.range ops.size).all fun i=>done.contains i
 | .op i :: l, done=>(match ops[i]? with
  | some o=>!done.contains i && o.after.toList.all (fun e=>!Region.binds .any e || done.contains e.on) && done.all (fun j=>zah T ops j != 2 || zfb bits j i) &&
    (cls T o != 2 || done.all (fun j=>(zah T ops j != 1 || zfb bits j i || (zfr l).contains j) && (zah T ops j != 3 || zfb bits j i))) && zcw T ops bits l (i :: done)
  | none=>false)
 | .look _ :: l, done=>zcw T ops bits l done
 | .expect _ _ :: l, done=>zcw T ops bits l done
def zhr (ops:Array Oper):Bool:=(List.range ops.size).all fun i=>match ops[i]? with | some o=>o.after.toList.all (fun e=>!Region.binds .any e || Nat.blt e.on i) | none=>true
def parted (T:Tab) (ops:Array Oper) (bits:List Nat) (j i:Nat):Bool:=(List.range ops.size).any fun w=>zah T ops w == 2 && zfb bits j w && (Nat.beq w i || zfb bits w i)
def tmpsOk (T:Tab) (N:Nat) (ops:Array Oper) (bits:List Nat):Bool:=
 (List.range ops.size).all fun i=>match ops[i]? with
  | some o=>(match o.dst with
   | some d=>Nat.blt d N && (List.range ops.size).all fun j=>Nat.beq i j || (match ops[j]? with
    | some o'=>o'.dst != some d && (!(o'.looksAt ops).contains d || (zfb bits i j || parted T ops bits j i))
    | none=>true)
   | none=>true) && !(match o.dst with | some d=>(o.looksAt ops).contains d | none=>false)
  | none=>true
def zoc (T:Tab) (N:Nat) (ops:Array Oper) (plan:List Do):Bool:=
 let bits:=befs ops.toList []
 zhr ops && tmpsOk T N ops bits && zcw T ops bits plan []
theorem yv {ops:Array Oper} {i:Nat} {o:Oper} (h:ops[i]? = some o):i < ops.size:=(Array.getElem?_eq_some_iff.1 h).1
theorem zpj {ops:Array Oper} (h:zhr ops = true) {i:Nat} {o:Oper} (ho:ops[i]? = some o) {e:Edge} (he:e ∈ o.after) (hb:Region.binds .any e = true):e.on < i:=by
 unfold zhr at h
 rw [List.all_eq_true] at h
 have:=h i (List.mem_range.2 (yv ho))
 rw [ho] at this
 dsimp only at this
 rw [List.all_eq_true] at this
 have:=this e (Array.mem_toList_iff.2 he)
 rw [hb] at this
 exact Nat.lt_of_succ_le (Nat.le_of_ble_eq_true this)
structure TmpsOk (T:Tab) (N:Lot) (ops:Array Oper):Prop where
 fit:∀ (i:Nat) (o:Oper) (d:Nat), ops[i]? = some o->o.dst = some d->N.has d
 one:∀ (i j:Nat) (o o':Oper) (d:Nat), ops[i]? = some o->ops[j]? = some o'->o.dst = some d->o'.dst = some d->i = j
 self:∀ (i:Nat) (o:Oper) (d:Nat), ops[i]? = some o->o.dst = some d->d ∉ o.looksAt ops
 look:∀ (i j:Nat) (o o':Oper) (d:Nat), ops[i]? = some o->ops[j]? = some o'->o.dst = some d->d ∈ o'.looksAt ops->Bef ops i j ∨ ∃ w, zah T ops w = 2 ∧ Bef ops j w ∧ (w = i ∨ Bef ops w i)
theorem tmps_ok {T:Tab} {N:Lot} {ops:Array Oper} (h:tmpsOk T N.n ops (befs ops.toList []) = true) (hk:zhh (N.kp.map (·.1)) ops = true):TmpsOk T N ops:=by
 unfold tmpsOk at h
 rw [List.all_eq_true] at h
 have key:∀ (i:Nat) (o:Oper) (d:Nat), ops[i]? = some o->o.dst = some d->(d < N.n ∧ d ∉ o.looksAt ops) ∧
   ∀ (j:Nat) (o':Oper), ops[j]? = some o'->i ≠ j->o'.dst ≠ some d ∧ (d ∈ o'.looksAt ops->Bef ops i j ∨ ∃ w, zah T ops w = 2 ∧ Bef ops j w ∧ (w = i ∨ Bef ops w i)):=by
  intro i o d ho hd
  have h1:=h i (List.mem_range.2 (yv ho))
  rw [ho] at h1
  dsimp only at h1
  rw [hd] at h1
  dsimp only at h1
  rw [Bool.and_eq_true, Bool.and_eq_true, List.all_eq_true] at h1
  refine ⟨⟨Nat.lt_of_succ_le (Nat.le_of_ble_eq_true h1.1.1), fun hm=>?_⟩, fun j o' ho' hne=>?_⟩
  ·have h2:=h1.2
   simp [hm] at h2
  ·have h2:=h1.1.2 j (List.mem_range.2 (yv ho'))
   rw [yo hne, ho'] at h2
   simp only [Bool.false_or, Bool.and_eq_true, bne_iff_ne, ne_eq, Bool.or_eq_true, Bool.not_eq_true', List.contains_eq_mem, decide_eq_false_iff_not] at h2
   refine ⟨h2.1, fun hm=>(h2.2.resolve_left (fun hn=>hn hm)).imp zek fun hp=>?_⟩
   unfold parted at hp
   obtain ⟨w, _, hw⟩:=List.any_eq_true.1 hp
   simp only [Bool.and_eq_true, beq_iff_eq, Bool.or_eq_true] at hw
   exact ⟨w, hw.1.1, zek hw.1.2, hw.2.imp Nat.eq_of_beq_eq_true zek⟩
 refine ⟨fun i o d ho hd=>⟨(key i o d ho hd).1.1, keep_ok hk ho hd⟩, fun i j o o' d ho ho' hd hd'=>?_, fun i o d ho hd=>(key i o d ho hd).1.2, fun i j o o' d ho ho' hd hm=>?_⟩
 ·by_cases hne:i = j
  ·exact hne
  ·exact absurd hd' ((key i o d ho hd).2 j o' ho' hne).1
 ·by_cases hne:i = j
  ·subst hne
   rw [ho] at ho'
   cases ho'
   exact absurd hm (key i o d ho hd).1.2
  ·exact ((key i o d ho hd).2 j o' ho' hne).2 hm
theorem zem {T:Tab} {ops:Array Oper} {bits:List Nat} {i:Nat} {l:List Do} {done:List Nat} (h:zcw T ops bits (.op i :: l) done = true) :
  ∃ o, ops[i]? = some o ∧ i ∉ done ∧ (∀ e ∈ o.after, Region.binds .any e = true->e.on ∈ done) ∧ (∀ j ∈ done, zah T ops j = 2->zfb bits j i = true) ∧
   (cls T o = 2->∀ j ∈ done, (zah T ops j = 1->zfb bits j i = true ∨ j ∈ zfr l) ∧ (zah T ops j = 3->zfb bits j i = true)) ∧ zcw T ops bits l (i :: done) = true:=by
 simp only [zcw] at h
 cases ho:ops[i]? with
 | none=>rw [ho] at h; cases h
 | some o=>
  rw [ho] at h
  simp only [Bool.and_eq_true, Bool.not_eq_true', List.contains_eq_mem, decide_eq_false_iff_not, List.all_eq_true, Bool.or_eq_true, bne_iff_ne, decide_eq_true_eq] at h
  obtain ⟨⟨⟨⟨h1, h2⟩, h3⟩, h4⟩, h5⟩:=h
  refine ⟨o, rfl, h1, fun e he hb=>(h2 e (Array.mem_toList_iff.2 he)).resolve_left (by rw [hb]; simp), fun j hj hc=>(h3 j hj).resolve_left (fun hn=>hn hc), fun hc j hj=>⟨fun hl=>?_, fun hl=>?_⟩, h5⟩
  ·have:=((h4.resolve_left (fun hn=>hn hc)) j hj).1
   rcases this with (h6 | h6) | h6
   ·exact absurd hl h6
   ·exact .inl h6
   ·exact .inr h6
  ·exact ((h4.resolve_left (fun hn=>hn hc)) j hj).2.resolve_left (fun hn=>hn hl)
theorem zdf {T:Tab} {ops:Array Oper} {bits:List Nat} {i j:Nat} (hi:i < ops.size) (hj:zah T ops j = 2):∀ (l:List Do) (done:List Nat),
  zcw T ops bits l done = true->i ∉ done->j ∈ done->zfb bits j i = true
 | [], done, h, hn, _=>by
  simp only [zcw, List.all_eq_true] at h
  have:=h i (List.mem_range.2 hi)
  exact absurd (by simpa using this) hn
 | .op k :: l, done, h, hn, hm=>by
  obtain ⟨o, ho, h1, h2, h3, h4, h5⟩:=zem h
  by_cases hk:k = i
  ·subst hk; exact h3 j hm hj
  ·exact zdf hi hj l (k :: done) h5 (by simp; exact ⟨fun e=>hk e.symm, hn⟩) (List.mem_cons_of_mem _ hm)
 | .look _ :: l, done, h, hn, hm=>zdf hi hj l done h hn hm
 | .expect _ _ :: l, done, h, hn, hm=>zdf hi hj l done h hn hm
theorem zha {α:Type} {T:Tab} {call:Call α} {ρ:Frame} {o:Oper} {K E:V->M α} {h:H} {out:α} (hp:zcx T o.op = true) (e:zj T call ρ o K E h = some out) :
  ∃ v, K v h = some out ∧ ∀ (β:Type) (c:Call β) (K' E':V->M β) (h':H), zj T c ρ o K' E' h' = K' v h':=by
 obtain ⟨r, hr⟩:=zpx (ρ:=ρ) hp
 cases r with
 | none=>have:=(hr α call K E h).symm.trans e; cases this
 | some v=>exact ⟨v, (hr α call K E h).symm.trans e, fun β c K' E' h'=>hr β c K' E' h'⟩
theorem zrr {α:Type} {s:Sh} {v:V} {K:V->M α} {h:H} {out:α} (e:asSh s v K h = some out):∀ (β:Type) (K':V->M β), asSh s v K' h = K' v h:=by
 intro β K'
 cases s <;> simp only [asSh] at e ⊢
 ·obtain ⟨n, rfl, _⟩:=jc e
  clear e
  rename_i k _
  cases k <;> rfl
 ·obtain ⟨n, rfl, _⟩:=zhl e; rfl
 ·obtain ⟨n, rfl, _⟩:=jh e; rfl
 ·obtain ⟨n, rfl, _⟩:=yl e; rfl
 ·obtain ⟨n, rfl, _⟩:=jq e; rfl
 ·obtain ⟨n, rfl, _⟩:=zeq e; rfl
theorem zfp {α:Type} {a:Ad} {h:H} {out:α}:∀ {ss:List Sh} {i:Nat} {K:List V->M α}, zbr a i ss K h = some out ->
  ∃ vs, K vs h = some out ∧ ∀ (β:Type) (K':List V->M β), zbr a i ss K' h = K' vs h
 | [], i, K, e=>⟨[], e, fun _ _=>rfl⟩
 | s :: ss, i, K, e=>by
  simp only [zbr, ldSh] at e ⊢
  obtain ⟨v, hv, e1⟩:=ld_inv e
  have e2:=zfk e1
  obtain ⟨vs, h1, h2⟩:=zfp (K:=fun vs=>K (v :: vs)) e2
  refine ⟨v :: vs, h1, fun β K'=>?_⟩
  unfold ld
  rw [hv]
  dsimp only
  rw [zrr e1 β]
  exact h2 β _
theorem zqd {α:Type} {b:Bool} {cs:List V} {K:V->M α} {h:H} {out:α} (e:mk b cs K h = some out) :
  ∃ v, (if b then v = .agg cs else cs = [v]) ∧ K v h = some out ∧ ∀ (β:Type) (K':V->M β) (h':H), mk b cs K' h' = K' v h':=by
 obtain ⟨v, hv, e1⟩:=zit e
 refine ⟨v, hv, e1, fun β K' h'=>?_⟩
 cases b
 ·simp only [Bool.false_eq_true, if_false] at hv
  subst hv; rfl
 ·simp only [if_true] at hv
  subst hv; rfl
theorem zln {α:Type} {T:Tab} {call:Call α} {ρ:Frame} {o:Oper} {K E:V->M α} {h:H} {out:α} {t:TypeId} {x:Operand} (hp:o.op = .load t x) (e:zj T call ρ o K E h = some out) :
  ∃ v p i vs, ev T ρ x = .ptr (some p) ∧ T.ti t = some i ∧ (∀ (β:Type) (K':List V->M β), zbr p 0 i.sh K' h = K' vs h) ∧ (if i.agg then v = .agg vs else vs = [v]) ∧ K v h = some out ∧
   ∀ (β:Type) (c:Call β) (K' E':V->M β), zj T c ρ o K' E' h = K' v h:=by
 simp only [zj, hp] at e ⊢
 obtain ⟨p, hp, e⟩:=yl e
 obtain ⟨p, rfl, e⟩:=jl e
 cases hi:T.ti t with
 | none=>rw [hi] at e; cases e
 | some i=>
  rw [hi] at e
  dsimp only at e
  obtain ⟨vs, e1, hl⟩:=zfp e
  obtain ⟨v, hv, e2, hm⟩:=zqd e1
  refine ⟨v, p, i, vs, hp, rfl, hl, hv, e2, fun β c K' E'=>?_⟩
  rw [hp]
  show zbr p 0 i.sh (fun cs=>mk i.agg cs K') h = K' v h
  rw [hl]; exact hm β K' h
theorem zlp {α:Type} {a:Ad} {h:H} {out:α} {b:Blk} (hdom:∀ i c, h.get i = some c->i < h.next):∀ {ss:List Sh} {i:Nat} {K:List V->M α}, zbr a i ss K h = some out ->
  ∃ vs, (∀ (β:Type) (K':List V->M β), zbr a i ss K' h = K' vs h) ∧ ∀ (β:Type) (K':List V->M β), zbr a i ss K' (h.push b) = K' vs (h.push b)
 | [], i, K, e=>⟨[], fun _ _=>rfl, fun _ _=>rfl⟩
 | s :: ss, i, K, e=>by
  simp only [zbr, ldSh] at e ⊢
  obtain ⟨v, hv, e1⟩:=ld_inv e
  have e2:=zfk e1
  obtain ⟨vs, h1, h2⟩:=zlp (b:=b) hdom (K:=fun vs=>K (v :: vs)) e2
  have hv':(h.push b).cell (a.add i) = some v:=by
   unfold H.cell at hv ⊢
   cases hg:h.get (a.add i).id with
   | none=>rw [hg] at hv; cases hv
   | some c=>
    rw [zbc, if_neg (by have:=hdom _ c hg; omega), hg]
    rw [hg] at hv
    exact hv
  have hsh:∀ (β:Type) (K':V->M β) (g:H), asSh s v K' g = K' v g:=by
   intro β K' g
   clear h1 h2 e2 hv hv' e
   cases s <;> simp only [asSh] at e1 ⊢
   ·obtain ⟨n, rfl, _⟩:=jc e1
    clear e1
    rename_i k _
    cases k <;> rfl
   ·obtain ⟨n, rfl, _⟩:=zhl e1; rfl
   ·obtain ⟨n, rfl, _⟩:=jh e1; rfl
   ·obtain ⟨n, rfl, _⟩:=yl e1; rfl
   ·obtain ⟨n, rfl, _⟩:=jq e1; rfl
   ·obtain ⟨n, rfl, _⟩:=zeq e1; rfl
  refine ⟨v :: vs, fun β K'=>?_, fun β K'=>?_⟩
  ·unfold ld
   rw [hv]
   dsimp only
   rw [hsh β]
   exact h1 β _
  ·unfold ld
   rw [hv']
   dsimp only
   rw [hsh β]
   exact h2 β _
theorem load_push {α:Type} {T:Tab} {call:Call α} {ρ:Frame} {o:Oper} {K E:V->M α} {h:H} {out:α} {t:TypeId} {x:Operand} {b:Blk} (hdom:∀ i c, h.get i = some c->i < h.next) (hp:o.op = .load t x) (e:zj T call ρ o K E h = some out) :
  ∃ v, (∀ (β:Type) (c:Call β) (K' E':V->M β), zj T c ρ o K' E' h = K' v h) ∧ ∀ (β:Type) (c:Call β) (K' E':V->M β), zj T c ρ o K' E' (h.push b) = K' v (h.push b):=by
 simp only [zj, hp] at e ⊢
 obtain ⟨p, hp, e⟩:=yl e
 obtain ⟨p, rfl, e⟩:=jl e
 cases hi:T.ti t with
 | none=>rw [hi] at e; cases e
 | some i=>
  rw [hi] at e
  dsimp only at e
  obtain ⟨vs, hl, hl'⟩:=zlp (b:=b) hdom e
  have e:zbr p 0 i.sh (fun cs=>mk i.agg cs K) h = some out:=e
  rw [hl] at e
  obtain ⟨v, hv, e2, hm⟩:=zqd e
  refine ⟨v, fun β c K' E'=>?_, fun β c K' E'=>?_⟩
  ·rw [hp]
   show zbr p 0 i.sh (fun cs=>mk i.agg cs K') h = K' v h
   rw [hl]; exact hm β K' h
  ·rw [hp]
   show zbr p 0 i.sh (fun cs=>mk i.agg cs K') (h.push b) = K' v (h.push b)
   rw [hl']; exact hm β K' _
theorem zql {α:Type} {T:Tab} {call:Call α} {ρ:Frame} {o:Oper} {K E:V->M α} {h:H} {out:α} (hp:cls T o = 3) (e:zj T call ρ o K E h = some out) :
  ∃ cs l c, K (.slice ⟨some ⟨h.next, 0⟩, l, c, none⟩) (h.push (.cells cs true)) = some out ∧ cs.all zfx = true ∧
   ∀ (β:Type) (cl:Call β) (K' E':V->M β) (g:H), zj T cl ρ o K' E' g = K' (.slice ⟨some ⟨g.next, 0⟩, l, c, none⟩) (g.push (.cells cs true)):=by
 unfold cls at hp
 cases hpure:zcx T o.op with
 | true=>rw [hpure] at hp; cases hp
 | false=>
 rw [hpure] at hp
 simp only [cond_false] at hp
 cases ho:o.op <;> rw [ho] at hp <;> first | (cases hp; done) | skip
 rename_i t l c
 dsimp only at hp
 simp only [zj, ho] at e ⊢
 cases hi:T.ti t with
 | none=>rw [hi] at e; cases e
 | some i=>
 rw [hi] at e hp
 obtain ⟨und, a1, a2, z, a4, a5, a6⟩:=i
 cases und <;> dsimp only at hp e <;> first | (cases e; done) | skip
 rename_i el
 cases hj:T.ti el with
 | none=>rw [hj] at e; cases e
 | some i=>
 rw [hj] at e hp
 dsimp only at hp
 have hz:i.zero.all zfx = true:=by
  cases hz:i.zero.all zfx with
  | true=>rfl
  | false=>rw [hz] at hp; cases hp
 generalize ev T ρ l = u at e
 generalize ev T ρ c = u' at e
 cases u <;> cases u' <;> first | (cases e; done) | skip
 dsimp only at e ⊢
 unfold mkSl at e ⊢
 obtain ⟨h1, e⟩:=zi e
 obtain ⟨h2, e⟩:=zi e
 obtain ⟨h3, e⟩:=zi e
 obtain ⟨h4, e⟩:=zi e
 obtain ⟨h5, e⟩:=zi e
 refine ⟨_, _, _, e, ?_, fun β cl K' E' g=>?_⟩
 ·rw [List.all_eq_true] at hz ⊢
  intro v hv
  obtain ⟨zs, hzs, hv⟩:=List.mem_flatten.1 hv
  rw [(List.mem_replicate.1 hzs).2] at hv
  exact hz v hv
 ·rw [hj]
  dsimp only
  rw [h1, h2, h3, h4, h5]
  rfl
theorem zni {α:Type} {h:H} {out:α}:∀ {v w:V} {K:M α}, zgr v w K h = some out->v = w ∧ K h = some out
 | .nilIface, w, K, e=>by cases w <;> first | exact ⟨rfl, e⟩ | cases e
 | .nilFunc, w, K, e=>by cases w <;> first | exact ⟨rfl, e⟩ | cases e
 | .iface t a, .iface u b, K, e=>by
  simp only [zgr] at e
  obtain ⟨h1, e⟩:=zi e
  obtain ⟨h2, e⟩:=zni e
  exact ⟨by rw [Nat.eq_of_beq_eq_true h1, h2], e⟩
 | .int j a, .int k b, K, e=>by
  simp only [zgr] at e
  obtain ⟨h1, e⟩:=zi e
  rw [Bool.and_eq_true] at h1
  exact ⟨by rw [zgf h1.1, of_decide_eq_true h1.2], e⟩
 | .bool a, .bool b, K, e=>by simp only [zgr] at e; obtain ⟨h1, e⟩:=zi e; exact ⟨by rw [of_decide_eq_true h1], e⟩
 | .str a, .str b, K, e=>by simp only [zgr] at e; obtain ⟨h1, e⟩:=zi e; exact ⟨by rw [of_decide_eq_true h1], e⟩
 | .ptr a, .ptr b, K, e=>by simp only [zgr] at e; obtain ⟨h1, e⟩:=zi e; exact ⟨by rw [of_decide_eq_true h1], e⟩
 | .slice a, .slice b, K, e=>by simp only [zgr] at e; obtain ⟨h1, e⟩:=zi e; exact ⟨by rw [of_decide_eq_true h1], e⟩
 | .map a, .map b, K, e=>by simp only [zgr] at e; obtain ⟨h1, e⟩:=zi e; exact ⟨by rw [of_decide_eq_true h1], e⟩
 | .undef, w, K, e=>by cases w <;> cases e
 | .func _ _ _, w, K, e=>by cases w <;> cases e
 | .agg _, w, K, e=>by cases w <;> cases e
 | .tuple _, w, K, e=>by cases w <;> cases e
 | .iface _ _, .undef, K, e=>by cases e
 | .iface _ _, .bool _, K, e=>by cases e
 | .iface _ _, .int _ _, K, e=>by cases e
 | .iface _ _, .str _, K, e=>by cases e
 | .iface _ _, .ptr _, K, e=>by cases e
 | .iface _ _, .slice _, K, e=>by cases e
 | .iface _ _, .map _, K, e=>by cases e
 | .iface _ _, .func _ _ _, K, e=>by cases e
 | .iface _ _, .nilFunc, K, e=>by cases e
 | .iface _ _, .nilIface, K, e=>by cases e
 | .iface _ _, .agg _, K, e=>by cases e
 | .iface _ _, .tuple _, K, e=>by cases e
 | .int _ _, .undef, K, e=>by cases e
 | .int _ _, .bool _, K, e=>by cases e
 | .int _ _, .str _, K, e=>by cases e
 | .int _ _, .ptr _, K, e=>by cases e
 | .int _ _, .slice _, K, e=>by cases e
 | .int _ _, .map _, K, e=>by cases e
 | .int _ _, .func _ _ _, K, e=>by cases e
 | .int _ _, .nilFunc, K, e=>by cases e
 | .int _ _, .iface _ _, K, e=>by cases e
 | .int _ _, .nilIface, K, e=>by cases e
 | .int _ _, .agg _, K, e=>by cases e
 | .int _ _, .tuple _, K, e=>by cases e
 | .bool _, .undef, K, e=>by cases e
 | .bool _, .int _ _, K, e=>by cases e
 | .bool _, .str _, K, e=>by cases e
 | .bool _, .ptr _, K, e=>by cases e
 | .bool _, .slice _, K, e=>by cases e
 | .bool _, .map _, K, e=>by cases e
 | .bool _, .func _ _ _, K, e=>by cases e
 | .bool _, .nilFunc, K, e=>by cases e
 | .bool _, .iface _ _, K, e=>by cases e
 | .bool _, .nilIface, K, e=>by cases e
 | .bool _, .agg _, K, e=>by cases e
 | .bool _, .tuple _, K, e=>by cases e
 | .str _, .undef, K, e=>by cases e
 | .str _, .bool _, K, e=>by cases e
 | .str _, .int _ _, K, e=>by cases e
 | .str _, .ptr _, K, e=>by cases e
 | .str _, .slice _, K, e=>by cases e
 | .str _, .map _, K, e=>by cases e
 | .str _, .func _ _ _, K, e=>by cases e
 | .str _, .nilFunc, K, e=>by cases e
 | .str _, .iface _ _, K, e=>by cases e
 | .str _, .nilIface, K, e=>by cases e
 | .str _, .agg _, K, e=>by cases e
 | .str _, .tuple _, K, e=>by cases e
 | .ptr _, .undef, K, e=>by cases e
 | .ptr _, .bool _, K, e=>by cases e
 | .ptr _, .int _ _, K, e=>by cases e
 | .ptr _, .str _, K, e=>by cases e
 | .ptr _, .slice _, K, e=>by cases e
 | .ptr _, .map _, K, e=>by cases e
 | .ptr _, .func _ _ _, K, e=>by cases e
 | .ptr _, .nilFunc, K, e=>by cases e
 | .ptr _, .iface _ _, K, e=>by cases e
 | .ptr _, .nilIface, K, e=>by cases e
 | .ptr _, .agg _, K, e=>by cases e
 | .ptr _, .tuple _, K, e=>by cases e
 | .slice _, .undef, K, e=>by cases e
 | .slice _, .bool _, K, e=>by cases e
 | .slice _, .int _ _, K, e=>by cases e
 | .slice _, .str _, K, e=>by cases e
 | .slice _, .ptr _, K, e=>by cases e
 | .slice _, .map _, K, e=>by cases e
 | .slice _, .func _ _ _, K, e=>by cases e
 | .slice _, .nilFunc, K, e=>by cases e
 | .slice _, .iface _ _, K, e=>by cases e
 | .slice _, .nilIface, K, e=>by cases e
 | .slice _, .agg _, K, e=>by cases e
 | .slice _, .tuple _, K, e=>by cases e
 | .map _, .undef, K, e=>by cases e
 | .map _, .bool _, K, e=>by cases e
 | .map _, .int _ _, K, e=>by cases e
 | .map _, .str _, K, e=>by cases e
 | .map _, .ptr _, K, e=>by cases e
 | .map _, .slice _, K, e=>by cases e
 | .map _, .func _ _ _, K, e=>by cases e
 | .map _, .nilFunc, K, e=>by cases e
 | .map _, .iface _ _, K, e=>by cases e
 | .map _, .nilIface, K, e=>by cases e
 | .map _, .agg _, K, e=>by cases e
 | .map _, .tuple _, K, e=>by cases e
theorem znl {α:Type} {h:H} {out:α}:∀ {vs ws:List V} {K:M α}, znf vs ws K h = some out->vs = ws ∧ K h = some out
 | [], [], K, e=>⟨rfl, e⟩
 | v :: vs, w :: ws, K, e=>by
  obtain ⟨h1, e1⟩:=zni e
  obtain ⟨h2, e2⟩:=znl e1
  exact ⟨by rw [h1, h2], e2⟩
 | [], _ :: _, _, e=>by cases e
 | _ :: _, [], _, e=>by cases e
def zkr (T:Tab) (ρ:Frame) (h:H) (o:Oper):Prop:=
 ∃ t x d, o.op = .load t x ∧ o.dst = some d ∧ (ρ d = .tuple [] ∨ ∃ p i, ev T ρ x = .ptr (some p) ∧ T.ti t = some i ∧ ∀ (β:Type) (K':List V->M β), zbr p 0 i.sh K' h = K' (ρ d).cells h)
theorem zrt {α:Type} {T:Tab} {ρ:Frame} {o:Oper} {K:M α} {h:H} {out:α} (e:lookAt T ρ o K h = some out):zkr T ρ h o ∧ K h = some out:=by
 unfold lookAt at e
 cases hd:o.dst with
 | none=>cases ho:o.op <;> rw [hd, ho] at e <;> cases e
 | some d=>
 cases ho:o.op <;> rw [hd, ho] at e <;> first | (cases e; done) | skip
 case load t x=>
  dsimp only at e
  by_cases hu:ρ d = .tuple []
  ·rw [hu] at e
   exact ⟨⟨t, x, d, ho, hd, .inl hu⟩, e⟩
  ·have e':(asP (ev T ρ x) fun p=>asSome p fun p=>(match T.ti t with
     | some i=>zbr p 0 i.sh fun cs=>znf (ρ d).cells cs K
     | none=>fail)) h = some out:=by
    unfold zjo at e
    generalize ρ d = u at e hu
    cases u <;> first | exact e | skip
    rename_i vs
    cases vs
    ·exact absurd rfl hu
    ·exact e
   obtain ⟨p, hp, e1⟩:=yl e'
   obtain ⟨p, rfl, e2⟩:=jl e1
   cases hi:T.ti t with
   | none=>rw [hi] at e2; cases e2
   | some i=>
    rw [hi] at e2
    dsimp only at e2
    obtain ⟨vs, e3, hl⟩:=zfp e2
    obtain ⟨rfl, e4⟩:=znl e3
    exact ⟨⟨t, x, d, ho, hd, .inr ⟨p, i, hp, hi, hl⟩⟩, e4⟩
theorem zir {α:Type} {h:H} {out:α}:∀ {n:Nat} {l:List V} {K:List V->M α}, asLen n l K h = some out->K l h = some out
 | 0, [], K, e=>e
 | 0, _ :: _, K, e=>by cases e
 | n + 1, [], K, e=>by cases e
 | n + 1, x :: xs, K, e=>zir (K:=fun ys=>K (x :: ys)) e
theorem zjb {α:Type} {ρ:Frame} {t f:Nat} {a b:List V} {K:Frame->M α} {h:H} {out:α} (hρ:ρ t = .func f a b):∀ {fs:List (Nat × Nat × Nat)}, zjv ρ t f a b K fs h = some out->K ρ h = some out
 | [], e=>by cases e
 | (g, n, m) :: r, e=>by
  simp only [zjv] at e
  cases hf:Nat.beq f g with
  | false=>rw [hf] at e; exact zjb hρ e
  | true=>
   rw [hf] at e
   have hf:=Nat.eq_of_beq_eq_true hf
   subst hf
   simp only [cond_true] at e
   have e2:=zir (zir e)
   rwa [zlf hρ] at e2
section
variable {α:Type} {T:Tab} {call:Call α} {ops:Array Oper} {K:Frame->M α} {E:V->M α} {ρ:Frame} {h:H} {out:α}
theorem zed {t:Nat} {fs:List (Nat × Nat × Nat)} {l:List Do} (e:zae T call ops (.expect t fs :: l) ρ K E h = some out):zae T call ops l ρ K E h = some out:=by
 simp only [zae] at e
 unfold zcv at e
 generalize hρ:ρ t = u at e
 cases u with
 | func f a b=>exact zjb hρ e
 | _=>cases e
theorem zfg {i:Nat} {l:List Do} (e:zae T call ops (.look i :: l) ρ K E h = some out):(∃ o, ops[i]? = some o ∧ zkr T ρ h o) ∧ zae T call ops l ρ K E h = some out:=by
 simp only [zae] at e
 cases ho:ops[i]? with
 | none=>rw [ho] at e; cases e
 | some o=>
  rw [ho] at e
  obtain ⟨h1, h2⟩:=zrt e
  exact ⟨⟨o, rfl, h1⟩, h2⟩
theorem zhs:∀ {l:List Do}, zae T call ops l ρ K E h = some out->∀ i ∈ zfr l, ∃ o, ops[i]? = some o ∧ zkr T ρ h o
 | [], _, i, hi=>by cases hi
 | .op _ :: _, _, i, hi=>by cases hi
 | .expect _ _ :: _, _, i, hi=>by cases hi
 | .look j :: l, e, i, hi=>by
  obtain ⟨h1, h2⟩:=zfg e
  cases hi with
  | head=>exact h1
  | tail _ hi=>exact zhs h2 i hi
def zbo (ops:Array Oper) (o:Oper) (ρ:Frame):Option Bool:=
 match o.guard with
 | none=>some true
 | some (j, want)=>(match zej ops j with
  | none=>none
  | some t=>(match ρ t with
   | .bool g=>some (g == want)
   | .tuple []=>some false
   | _=>none))
theorem zmr {i:Nat} {l:List Do} (e:zae T call ops (.op i :: l) ρ K E h = some out):∃ o, ops[i]? = some o ∧
  ((zbo ops o ρ = some true ∧ zj T call ρ o (fun v=>zae T call ops l (ρ.put o.dst v) K E) E h = some out) ∨
   (zbo ops o ρ = some false ∧ zae T call ops l (ρ.put o.dst (.tuple [])) K E h = some out)):=by
 simp only [zae] at e
 cases ho:ops[i]? with
 | none=>rw [ho] at e; cases e
 | some o=>
  rw [ho] at e
  refine ⟨o, rfl, ?_⟩
  simp only [zds] at e
  unfold zbo
  cases hg:o.guard with
  | none=>rw [hg] at e; exact .inl ⟨rfl, e⟩
  | some gw=>
   obtain ⟨j, want⟩:=gw
   rw [hg] at e
   dsimp only at e ⊢
   cases ht:zej ops j with
   | none=>rw [ht] at e; cases e
   | some t=>
    rw [ht] at e
    dsimp only at e ⊢
    generalize hρt:ρ t = u at e
    cases u with
    | bool g=>
     dsimp only at e ⊢
     have hs:=zlf hρt
     have e':cond (g == want) (zj T call ρ o (fun v=>zae T call ops l (ρ.put o.dst v) K E) E) (zae T call ops l (ρ.put o.dst (.tuple [])) K E) h = some out:=by
      cases g
      ·simpa [bcase, hs] using e
      ·simpa [bcase, hs] using e
     cases hq:(g == want) with
     | true=>rw [hq] at e'; exact .inl ⟨rfl, e'⟩
     | false=>rw [hq] at e'; exact .inr ⟨rfl, e'⟩
    | tuple vs=>
     cases vs with
     | nil=>exact .inr ⟨rfl, e⟩
     | cons _ _=>cases e
    | _=>cases e
end
end Go.Ab
namespace Go.Ab
def zhz {β:Type}:Call β:=fun _ _ _=>fail
def K0:V->M (V × H):=fun v h=>some (v, h)
def E0:V->M (V × H):=fun _ _=>none
def Pend (T:Tab) (ops:Array Oper) (o:Oper) (ρ:Frame) (h:H):Prop:=
 (zbo ops o ρ = some true ∧ ∃ v, (∀ d, o.dst = some d->ρ d = v) ∧ zj T zhz ρ o K0 E0 h = some (v, h)) ∨
 (zbo ops o ρ = some false ∧ ∀ d, o.dst = some d->ρ d = .tuple [])
theorem zgp {ops:Array Oper} {o:Oper} {t:Nat} (h:Operand.tmp t ∈ o.op.operands):t ∈ o.looksAt ops:=
 List.mem_append_left _ (List.mem_filterMap.2 ⟨.tmp t, by simpa using h, rfl⟩)
theorem zjk {ops:Array Oper} {o:Oper} {j t:Nat} {want:Bool} (hg:o.guard = some (j, want)) (ht:zej ops j = some t):t ∈ o.looksAt ops:=by
 refine List.mem_append_right _ ?_
 rw [hg]
 unfold zej at ht
 cases ho:ops[j]? with
 | none=>rw [ho] at ht; cases ht
 | some o'=>
  rw [ho] at ht
  dsimp only at ht
  simp [ho, ht]
theorem zam {α:Type} {T:Tab} {ops:Array Oper} {call:Call α} {ρ ρ2:Frame} {K E:V->M α} (o:Oper) (h:∀ t ∈ o.looksAt ops, ρ t = ρ2 t) :
  zj T call ρ o K E = zj T call ρ2 o K E:=
 znx o fun x hx=>zpd fun t ht=>h t (zgp (ht ▸ hx))
theorem yr {ops:Array Oper} {ρ ρ2:Frame} (o:Oper) (h:∀ t ∈ o.looksAt ops, ρ t = ρ2 t):zbo ops o ρ = zbo ops o ρ2:=by
 unfold zbo
 cases hg:o.guard with
 | none=>rfl
 | some gw=>
  obtain ⟨j, want⟩:=gw
  dsimp only
  cases ht:zej ops j with
  | none=>rfl
  | some t=>
   dsimp only
   rw [h t (zjk hg ht)]
theorem Pend.looks {T:Tab} {ops:Array Oper} {o:Oper} {ρ ρ2:Frame} {h:H} (p:Pend T ops o ρ h) (hl:∀ t ∈ o.looksAt ops, ρ t = ρ2 t) (hd:∀ d, o.dst = some d->ρ d = ρ2 d):Pend T ops o ρ2 h:=by
 rcases p with ⟨h1, v, h2, h3⟩ | ⟨h1, h2⟩
 ·exact .inl ⟨by rw [← yr o hl]; exact h1, v, fun d hd'=>by rw [← hd d hd']; exact h2 d hd', by rw [← zam o hl]; exact h3⟩
 ·exact .inr ⟨by rw [← yr o hl]; exact h1, fun d hd'=>by rw [← hd d hd']; exact h2 d hd'⟩
theorem zak {ρ:Frame} {dst:Option Nat} {v:V} {t:Nat} (h:dst ≠ some t):(ρ.put dst v) t = ρ t:=by
 cases dst with
 | none=>rfl
 | some d=>
  show cond (Nat.beq t d) v (ρ t) = ρ t
  rw [yo (fun e=>h (by rw [e]))]; rfl
theorem zla {ρ:Frame} {v:V} {t:Nat}:(ρ.put (some t) v) t = v:=by
 show cond (Nat.beq t t) v (ρ t) = v
 simp
theorem zll {T:Tab} {o:Oper} (h2:cls T o ≠ 2) (h3:cls T o ≠ 3) (hp:zcx T o.op = false):cls T o = 1:=by
 unfold cls at h2 h3 ⊢
 rw [hp] at h2 h3 ⊢
 simp only [cond_false] at h2 h3 ⊢
 generalize o.op = op at h2 h3 ⊢
 cases op <;> first | rfl | exact absurd rfl h2 | skip
 rename_i t l c
 exfalso
 dsimp only at h2 h3
 split at h2
 ·split at h2
  ·rename_i i _
   cases hz:i.zero.all zfx
   ·rw [hz] at h2; exact h2 rfl
   ·rename_i h5 _ h6; rw [h5] at h3; dsimp only at h3; rw [h6] at h3; dsimp only at h3; rw [hz] at h3; exact h3 rfl
  ·exact h2 rfl
 ·exact h2 rfl
theorem cls_is1 {T:Tab} {o:Oper} (h:cls T o = 1):∃ t x, o.op = .load t x:=by
 unfold cls at h
 cases hp:zcx T o.op with
 | true=>rw [hp] at h; cases h
 | false=>
  rw [hp] at h
  simp only [cond_false] at h
  generalize o.op = op at h
  cases op <;> first | exact ⟨_, _, rfl⟩ | (cases h; done) | skip
  dsimp only at h
  split at h
  ·split at h
   ·rename_i i _
    cases hz:i.zero.all zfx <;> rw [hz] at h <;> cases h
   ·cases h
  ·cases h
def znd (T:Tab) (ops:Array Oper) (o:Oper) (ρ:Frame) (h:H) (Y:Nat->Prop) (id:Option Nat):Prop:=
 (∃ x, id = some x ∧ zbo ops o ρ = some true ∧ Y x ∧ ∃ cs l c, h.get x = some (.cells cs true) ∧ cs.all zfx = true ∧ (∀ d, o.dst = some d->ρ d = .slice ⟨some ⟨x, 0⟩, l, c, none⟩) ∧
  ∀ (β:Type) (cl:Call β) (K' E':V->M β) (g:H), zj T cl ρ o K' E' g = K' (.slice ⟨some ⟨g.next, 0⟩, l, c, none⟩) (g.push (.cells cs true))) ∨
 (id = none ∧ zbo ops o ρ = some false ∧ ∀ d, o.dst = some d->ρ d = .tuple [])
theorem znd.looks {T:Tab} {ops:Array Oper} {o:Oper} {ρ ρ2:Frame} {h h2:H} {Y Y2:Nat->Prop} {id:Option Nat} (p:znd T ops o ρ h Y id) (hl:∀ t ∈ o.looksAt ops, ρ t = ρ2 t) (hd:∀ d, o.dst = some d->ρ d = ρ2 d)
  (hy:∀ x, id = some x->Y x->Y2 x) (hg:∀ x, id = some x->Y x->h2.get x = h.get x):znd T ops o ρ2 h2 Y2 id:=by
 rcases p with ⟨x, h0, h1, h2, cs, l, c, h3, h4, h5, h6⟩ | ⟨h0, h1, h2⟩
 ·exact .inl ⟨x, h0, by rw [← yr o hl]; exact h1, hy x h0 h2, cs, l, c, by rw [hg x h0 h2]; exact h3, h4, fun d hd'=>by rw [← hd d hd']; exact h5 d hd', fun β cl K' E' g=>by rw [← zam o hl]; exact h6 β cl K' E' g⟩
 ·exact .inr ⟨h0, by rw [← yr o hl]; exact h1, fun d hd'=>by rw [← hd d hd']; exact h2 d hd'⟩
theorem Pend.push {T:Tab} {ops:Array Oper} {o:Oper} {ρ:Frame} {h:H} (b:Blk) (hdom:∀ i c, h.get i = some c->i < h.next) (h2:cls T o ≠ 2) (h3:cls T o ≠ 3) (p:Pend T ops o ρ h):Pend T ops o ρ (h.push b):=by
 rcases p with ⟨h1, v, hd, hs⟩ | p
 ·refine .inl ⟨h1, v, hd, ?_⟩
  cases hp:zcx T o.op with
  | true=>
   obtain ⟨v', h1, h2⟩:=zha hp hs
   cases h1
   exact h2 _ _ _ _ _
  | false=>
   have hl:∃ t x, o.op = .load t x:=cls_is1 (zll h2 h3 hp)
   obtain ⟨t, x, hl⟩:=hl
   obtain ⟨v', f1, f2⟩:=load_push (b:=b) hdom hl hs
   rw [f1] at hs
   cases hs
   exact f2 _ _ _ _
 ·exact .inr p
section
variable {α:Type} {P:Program} {T:Tab} {base:Nat} {w0:World} {X Y:Nat->Prop} {idf:Nat->Option Nat} {call:Call α} {out:α} {N:Lot} {dfs:List Deferred} {ι₀:Io} {h₀:H} {w₁:World}
 {ops:Array Oper} {K:Frame->M α} {E:V->M α}
def isL (l:Array Bool) (i:Nat):Prop:=l.getD i false = true
structure Inv (P:Program) (T:Tab) (base:Nat) (w0:World) (Y:Nat->Prop) (idf:Nat->Option Nat) (call:Call α) (out:α) (N:Lot) (dfs:List Deferred) (ι₀:Io) (h₀:H) (w₁:World) (ops:Array Oper) (K:Frame->M α) (E:V->M α)
  (listed:Array Bool) (ι:Io) (h:H) (w:World) (a:Act) (pl:List Do) (done:List Nat) (ρ:Frame):Prop where
 ev:zae T call ops pl ρ K E h = some out
 chk:zcw T ops (befs ops.toList []) pl done = true
 R:HR T base w0 Y ι h w
 W:WentX Y ι₀ h₀ w₁ ι h w
 sz:a.tmps.size = N.n
 kp:∀ p ∈ N.kp, a.tmps.getD p.1 undef = p.2
 df:a.defers = dfs
 lt:∀ x, Y x->h₀.next≤x ∧ x < h.next
 own:∀ x, Y x->∃ i ∈ done, ¬ isL listed i ∧ zah T ops i = 3 ∧ idf i = some x
 inj:∀ i j x, i ∈ done->j ∈ done->¬ isL listed i->¬ isL listed j->zah T ops i = 3->zah T ops j = 3->idf i = some x->idf j = some x->i = j
 sub:∀ i, isL listed i->i ∈ done
 hp:∀ i ∈ done, zah T ops i = 2->isL listed i
 clD:∀ i ∈ done, ∀ o, ops[i]? = some o->∀ e ∈ o.after, Region.binds .any e = true->e.on ∈ done
 clL:∀ i, isL listed i->∀ o, ops[i]? = some o->∀ e ∈ o.after, Region.binds .any e = true->isL listed e.on
 fr:∀ t, (∀ i ∈ done, ¬ isL listed i->∀ o, ops[i]? = some o->o.dst ≠ some t)->VR ι (okOf h Y) (ρ t) (a.tmps.getD t undef)
 pend:∀ i ∈ done, ¬ isL listed i->∀ o, ops[i]? = some o->(cls T o ≠ 3->Pend T ops o ρ h) ∧ (cls T o = 3->znd T ops o ρ h Y (idf i))
variable {listed:Array Bool} {ι:Io} {h:H} {w:World} {a:Act} {pl:List Do} {done:List Nat} {ρ:Frame}
theorem zex {S:Nat->Prop} (hc:∀ i, S i->∀ o, ops[i]? = some o->∀ e ∈ o.after, Region.binds .any e = true->S e.on) {i j:Nat} (hb:Bef ops i j):S j->S i:=by
 induction hb with
 | one ho he hb=>exact fun hj=>hc _ hj _ ho _ he hb
 | cons ho he hb _ ih=>exact fun hj=>ih (hc _ hj _ ho _ he hb)
theorem zco {S:Nat->Prop} (hc:∀ i, S i->∀ o, ops[i]? = some o->∀ e ∈ o.after, Region.binds .any e = true->S e.on) {i j:Nat} {o:Oper} (ho:ops[j]? = some o) (hr:∀ e ∈ o.after, Region.binds .any e = true->S e.on) (hb:Bef ops i j):S i:=by
 cases hb with
 | one ho' he hb=>rw [ho] at ho'; cases ho'; exact hr _ he hb
 | cons ho' he hb hbb=>rw [ho] at ho'; cases ho'; exact zex hc hbb (hr _ he hb)
theorem zbt {i:Nat} {o:Oper} (ho:ops[i]? = some o):zah T ops i = cls T o:=by unfold zah; rw [ho]
theorem zlz {i:Nat} (h:zah T ops i = 3):∃ o, ops[i]? = some o:=by
 cases ho:ops[i]? with
 | none=>unfold zah at h; rw [ho] at h; cases h
 | some o=>exact ⟨o, rfl⟩
theorem Inv.adv (hT:TmpsOk T N ops) {j:Nat} (I:Inv P T base w0 Y idf call out N dfs ι₀ h₀ w₁ ops K E listed ι h w a (.op j :: pl) done ρ) (hj:zah T ops j ≠ 2) :
  ∃ Y' idf' h' ρ', Inv P T base w0 Y' idf' call out N dfs ι₀ h₀ w₁ ops K E listed ι h' w a pl (j :: done) ρ':=by
 obtain ⟨o, ho, hnd, hpre, hhp, hlk, hchk⟩:=zem I.chk
 obtain ⟨o', ho', hev⟩:=zmr I.ev
 rw [ho] at ho'
 cases ho'
 have hnl:¬ isL listed j:=fun hl=>hnd (I.sub j hl)
 have hcj:=zbt (T:=T) ho
 rw [hcj] at hj
 -- what stands apart from j's own place
 have hap:∀ i ∈ done, ¬ isL listed i->∀ oi, ops[i]? = some oi->(∀ t ∈ oi.looksAt ops, o.dst ≠ some t) ∧ ∀ d, oi.dst = some d->o.dst ≠ some d:=by
  intro i hi hni oi hoi
  have hcl:∀ i, i ∈ done->∀ o, ops[i]? = some o->∀ e ∈ o.after, Region.binds .any e = true->e.on ∈ done:=I.clD
  refine ⟨fun t ht hd=>hnd ?_, fun d hd hd'=>hnd ?_⟩
  ·rcases hT.look j i o oi t ho hoi hd ht with hb | ⟨x, hx2, hx3, hx4⟩
   ·exact zex (S:=fun i=>i ∈ done) hcl hb hi
   ·exfalso
    rcases hx4 with rfl | hx4
    ·rw [zbt ho] at hx2; exact hj hx2
    ·have hxd:x ∈ done:=zco (S:=fun i=>i ∈ done) I.clD ho hpre hx4
     exact hni (zex (S:=isL listed) I.clL hx3 (I.hp x hxd hx2))
  ·have:=hT.one i j oi o d hoi ho hd hd'
   subst this; exact hi
 have hself:∀ v, ∀ t ∈ o.looksAt ops, ρ t = (ρ.put o.dst v) t:=by
  intro v t ht
  exact (zak fun hd=>hT.self j o t ho hd ht).symm
 have hne:∀ i ∈ done, i ≠ j:=fun i hi e=>hnd (e ▸ hi)
 have clD':∀ i ∈ j :: done, ∀ o, ops[i]? = some o->∀ e ∈ o.after, Region.binds .any e = true->e.on ∈ j :: done:=by
  intro i hi oi hoi e he hb
  cases hi with
  | head=>rw [ho] at hoi; cases hoi; exact List.mem_cons_of_mem _ (hpre e he hb)
  | tail _ hi=>exact List.mem_cons_of_mem _ (I.clD i hi oi hoi e he hb)
 have hp':∀ i ∈ j :: done, zah T ops i = 2->isL listed i:=by
  intro i hi hc
  cases hi with
  | head=>rw [hcj] at hc; exact absurd hc hj
  | tail _ hi=>exact I.hp i hi hc
 have idold:∀ i ∈ done, ¬ isL listed i->zah T ops i = 3->∀ x, idf i = some x->Y x:=by
  intro i hi hn hc x hx
  obtain ⟨oi, hoi⟩:=zlz hc
  rcases (I.pend i hi hn oi hoi).2 (by rw [← zbt hoi]; exact hc) with ⟨y, h0, _, hy, _⟩ | ⟨h0, _⟩
  ·rw [h0] at hx; cases hx; exact hy
  ·rw [h0] at hx; cases hx
 -- what is as it was but for the frame's place
 have same:∀ (idf':Nat->Option Nat) (v:V), (∀ i ∈ done, idf' i = idf i)->(cls T o = 3->idf' j = none)->zae T call ops pl (ρ.put o.dst v) K E h = some out->((cls T o ≠ 3->Pend T ops o (ρ.put o.dst v) h) ∧ (cls T o = 3->znd T ops o (ρ.put o.dst v) h Y (idf' j))) ->
   Inv P T base w0 Y idf' call out N dfs ι₀ h₀ w₁ ops K E listed ι h w a pl (j :: done) (ρ.put o.dst v):=by
  intro idf' v hid hidj e hpd
  refine ⟨e, hchk, I.R, I.W, I.sz, I.kp, I.df, I.lt, fun x hx=>?_, fun i k x hi hk hni hnk hci hck hxi hxk=>?_, fun i hi=>List.mem_cons_of_mem _ (I.sub i hi), hp', clD', I.clL, fun t ht=>?_, fun i hi hn oi hoi=>?_⟩
  ·obtain ⟨i, hi, h1, h2, h3⟩:=I.own x hx
   exact ⟨i, List.mem_cons_of_mem _ hi, h1, h2, by rw [hid i hi]; exact h3⟩
  ·cases hi with
   | head=>rw [hcj] at hci; rw [hidj hci] at hxi; cases hxi
   | tail _ hi=>cases hk with
    | head=>rw [hcj] at hck; rw [hidj hck] at hxk; cases hxk
    | tail _ hk=>exact I.inj i k x hi hk hni hnk hci hck (by rw [← hid i hi]; exact hxi) (by rw [← hid k hk]; exact hxk)
  ·rw [zak (ht j List.mem_cons_self hnl o ho)]
   exact I.fr t fun i hi=>ht i (List.mem_cons_of_mem _ hi)
  ·cases hi with
   | head=>rw [ho] at hoi; cases hoi; exact hpd
   | tail _ hi=>
    obtain ⟨h1, h2⟩:=hap i hi hn oi hoi
    have hl:∀ t ∈ oi.looksAt ops, ρ t = (ρ.put o.dst v) t:=fun t ht=>(zak (h1 t ht)).symm
    have hd:∀ d, oi.dst = some d->ρ d = (ρ.put o.dst v) d:=fun d hd=>(zak (h2 d hd)).symm
    refine ⟨fun hc=>((I.pend i hi hn oi hoi).1 hc).looks hl hd, fun hc=>?_⟩
    rw [hid i hi]
    exact ((I.pend i hi hn oi hoi).2 hc).looks hl hd (fun _ _ h=>h) (fun _ _ _=>rfl)
 rcases hev with ⟨hw, e⟩ | ⟨hw, e⟩
 ·by_cases h3:cls T o = 3
  ·-- memory is told of
   obtain ⟨cs, l, c, e1, hfl, hall⟩:=zql h3 e
   refine ⟨fun x=>Y x ∨ x = h.next, fun i=>if i = j then some h.next else idf i, h.push (.cells cs true), ρ.put o.dst (.slice ⟨some ⟨h.next, 0⟩, l, c, none⟩), e1, hchk, I.R.reserve _, I.W.reserve _, I.sz, I.kp, I.df, ?_, ?_, ?_,
    fun i hi=>List.mem_cons_of_mem _ (I.sub i hi), hp', clD', I.clL, ?_, ?_⟩
   ·rintro x (hx | rfl)
    ·have:=I.lt x hx; exact ⟨this.1, Nat.lt_succ_of_lt this.2⟩
    ·exact ⟨I.W.next, Nat.lt_succ_self _⟩
   ·rintro x (hx | rfl)
    ·obtain ⟨i, hi, hn, hc, hx⟩:=I.own x hx
     exact ⟨i, List.mem_cons_of_mem _ hi, hn, hc, by rw [if_neg (hne i hi)]; exact hx⟩
    ·exact ⟨j, List.mem_cons_self, hnl, by rw [hcj]; exact h3, if_pos rfl⟩
   ·intro i k x hi hk hni hnk hci hck hxi hxk
    cases hi with
    | head=>cases hk with
     | head=>rfl
     | tail _ hk=>
      exfalso
      rw [if_pos rfl] at hxi
      rw [if_neg (hne k hk)] at hxk
      cases hxi
      have:=(I.lt _ (idold k hk hnk hck _ hxk)).2
      omega
    | tail _ hi=>cases hk with
     | head=>
      exfalso
      rw [if_pos rfl] at hxk
      rw [if_neg (hne i hi)] at hxi
      cases hxk
      have:=(I.lt _ (idold i hi hni hci _ hxi)).2
      omega
     | tail _ hk=>
      rw [if_neg (hne i hi)] at hxi
      rw [if_neg (hne k hk)] at hxk
      exact I.inj i k x hi hk hni hnk hci hck hxi hxk
   ·intro t ht
    rw [zak (ht j List.mem_cons_self hnl o ho)]
    refine (I.fr t fun i hi=>ht i (List.mem_cons_of_mem _ hi)).mono (fun _ _=>rfl) fun i hi=>⟨Nat.lt_succ_of_lt hi.1, fun e=>?_⟩
    rcases e with e | e
    ·exact hi.2 e
    ·have:=hi.1; omega
   ·intro i hi hn oi hoi
    cases hi with
    | head=>
     rw [ho] at hoi
     cases hoi
     refine ⟨fun hc=>absurd h3 hc, fun _=>.inl ⟨h.next, if_pos rfl, ?_, .inr rfl, cs, l, c, by rw [zbc, if_pos rfl], hfl, fun d hd=>by rw [hd]; exact zla, fun β cl K' E' g=>?_⟩⟩
     ·rw [← yr o (hself _)]; exact hw
     ·rw [← zam o (hself _)]; exact hall β cl K' E' g
    | tail _ hi=>
     obtain ⟨h1, h2⟩:=hap i hi hn oi hoi
     have hl:∀ t ∈ oi.looksAt ops, ρ t = (ρ.put o.dst (.slice ⟨some ⟨h.next, 0⟩, l, c, none⟩)) t:=fun t ht=>(zak (h1 t ht)).symm
     have hd:∀ d, oi.dst = some d->ρ d = (ρ.put o.dst (.slice ⟨some ⟨h.next, 0⟩, l, c, none⟩)) d:=fun d hd=>(zak (h2 d hd)).symm
     refine ⟨fun hc=>?_, fun hc=>?_⟩
     ·have hc2:cls T oi ≠ 2:=fun hc2=>hn (I.hp i hi (by rw [zbt hoi]; exact hc2))
      exact (((I.pend i hi hn oi hoi).1 hc).push _ I.R.dom hc2 hc).looks hl hd
     ·show znd T ops oi _ _ _ (if i = j then some h.next else idf i)
      rw [if_neg (hne i hi)]
      exact ((I.pend i hi hn oi hoi).2 hc).looks hl hd (fun _ _ h=>.inl h) (fun x _ hx=>by rw [zbc, if_neg (by have:=(I.lt x hx).2; omega)])
  ·have hcls:zcx T o.op = true ∨ ∃ t x, o.op = .load t x:=by
    cases hp:zcx T o.op with
    | true=>exact .inl rfl
    | false=>
     exact .inr (cls_is1 (zll hj h3 hp))
   have hcst:∃ v, zae T call ops pl (ρ.put o.dst v) K E h = some out ∧ ∀ (β:Type) (c:Call β) (K' E':V->M β), zj T c ρ o K' E' h = K' v h:=by
    rcases hcls with hp | ⟨t, x, hp⟩
    ·obtain ⟨v, h1, h2⟩:=zha hp e
     exact ⟨v, h1, fun β c K' E'=>h2 β c K' E' h⟩
    ·obtain ⟨v, _, _, _, _, _, _, _, h1, h2⟩:=zln hp e
     exact ⟨v, h1, h2⟩
   obtain ⟨v, e1, hc⟩:=hcst
   refine ⟨Y, idf, h, _, same idf v (fun _ _=>rfl) (fun h=>absurd h h3) e1 ⟨fun _=>.inl ⟨by rw [← yr o (hself v)]; exact hw, v, fun d hd=>by rw [hd]; exact zla, ?_⟩, fun h=>absurd h h3⟩⟩
   rw [← zam o (hself v)]
   exact hc _ _ _ _
 ·refine ⟨Y, fun i=>if i = j then none else idf i, h, _, same _ _ (fun i hi=>if_neg (hne i hi)) (fun _=>if_pos rfl) e ⟨fun _=>.inr ⟨by rw [← yr o (hself _)]; exact hw, fun d hd=>by rw [hd]; exact zla⟩, fun _=>.inr ⟨if_pos rfl, by rw [← yr o (hself _)]; exact hw, fun d hd=>by rw [hd]; exact zla⟩⟩⟩
theorem Inv.reach (hT:TmpsOk T N ops) {i:Nat} {oi:Oper} (hi:ops[i]? = some oi) (hn:¬ isL listed i) (hpre:∀ e ∈ oi.after, Region.binds .any e = true->isL listed e.on) :
  ∀ (pl:List Do) (done:List Nat) (ρ:Frame) (h:H) (Y:Nat->Prop) (idf:Nat->Option Nat), Inv P T base w0 Y idf call out N dfs ι₀ h₀ w₁ ops K E listed ι h w a pl done ρ->i ∉ done ->
   ∃ pl' done' ρ' h' Y' idf', Inv P T base w0 Y' idf' call out N dfs ι₀ h₀ w₁ ops K E listed ι h' w a pl' done' ρ' ∧ (i ∈ done' ∨ (i ∉ done' ∧ zah T ops i = 2 ∧ ∃ pl'', pl' = .op i :: pl''))
 | [], done, ρ, h, Y, idf, I, hd=>by
  have:=I.chk
  simp only [zcw, List.all_eq_true] at this
  exact absurd (by simpa using this i (List.mem_range.2 (yv hi))) hd
 | .look j :: pl, done, ρ, h, Y, idf, I, hd=>
  Inv.reach hT hi hn hpre pl done ρ h Y idf { I with ev:=(zfg I.ev).2, chk:=I.chk } hd
 | .expect t fs :: pl, done, ρ, h, Y, idf, I, hd=>
  Inv.reach hT hi hn hpre pl done ρ h Y idf { I with ev:=zed I.ev, chk:=I.chk } hd
 | .op j :: pl, done, ρ, h, Y, idf, I, hd=>by
  by_cases hc:zah T ops j = 2
  ·by_cases hji:j = i
   ·subst hji; exact ⟨_, done, ρ, h, Y, idf, I, .inr ⟨hd, hc, pl, rfl⟩⟩
   ·exfalso
    obtain ⟨o, ho, hnd, _, _, _, hchk⟩:=zem I.chk
    have hb:=zdf (yv hi) hc pl (j :: done) hchk (by simp; exact ⟨fun e=>hji e.symm, hd⟩) List.mem_cons_self
    exact hnd (I.sub j (zco (S:=isL listed) I.clL hi hpre (zek hb)))
  ·obtain ⟨Y', idf', h', ρ', I'⟩:=I.adv hT hc
   by_cases hji:j = i
   ·subst hji; exact ⟨pl, _, ρ', h', Y', idf', I', .inl List.mem_cons_self⟩
   ·exact Inv.reach hT hi hn hpre pl (j :: done) ρ' h' Y' idf' I' (by simp; exact ⟨fun e=>hji e.symm, hd⟩)
theorem jy {listed:Array Bool} {i j:Nat} (hi:i < listed.size):isL (listed.setIfInBounds i true) j ↔ j = i ∨ isL listed j:=by
 unfold isL
 simp only [Array.getD_eq_getD_getElem?, Array.getElem?_setIfInBounds]
 by_cases h:i = j
 ·subst h; simp [hi]
 ·have:¬ j = i:=fun e=>h e.symm
  simp [h, this]
theorem wanted_eq {o:Oper} {a:Act} {ι:Io} {ok:Nat->Prop} (hF:∀ j want t, o.guard = some (j, want)->zej ops j = some t->VR ι ok (ρ t) (a.tmps.getD t undef)) {b:Bool} (hw:zbo ops o ρ = some b) :
  Region.wanted o (yielded ops a.tmps) = b:=by
 unfold zbo at hw
 cases hg:o.guard with
 | none=>rw [hg] at hw; cases hw; simp [Region.wanted, hg]
 | some gw=>
  obtain ⟨j, want⟩:=gw
  rw [hg] at hw
  dsimp only at hw
  cases ht:zej ops j with
  | none=>rw [ht] at hw; cases hw
  | some t=>
   rw [ht] at hw
   dsimp only at hw
   have hFt:=hF j want t hg ht
   generalize ρ t = u at hw hFt
   cases u with
   | bool g=>
    cases hw
    have hy:=zkm (ops:=ops) ht g hFt
    simp only [Region.wanted, hg, hy]
    cases g <;> cases want <;> rfl
   | tuple vs=>
    cases vs with
    | cons _ _=>cases hw
    | nil=>
     cases hw
     obtain ⟨arr, harr, hv⟩:=hFt
     have:arr = #[]:=Array.eq_empty_of_size_eq_zero (by simpa using hv.length.symm)
     subst this
     simp [Region.wanted, hg, zjd (ops:=ops) ht harr]
   | _=>cases hw
def seen (ops:Array Oper) (o:Oper) (ρ:Frame):Frame:=fun t=>cond ((o.looksAt ops).contains t) (ρ t) .undef
theorem zjp {o:Oper} {t:Nat} (h:t ∈ o.looksAt ops):seen ops o ρ t = ρ t:=by
 unfold seen
 rw [show (o.looksAt ops).contains t = true by simpa using h]; rfl
theorem zoy {o:Oper} {ι:Io} {ok:Nat->Prop} {a:Act} (h:∀ t ∈ o.looksAt ops, VR ι ok (ρ t) (a.tmps.getD t undef)):FR ι ok (seen ops o ρ) a:=by
 intro t
 by_cases ht:t ∈ o.looksAt ops
 ·rw [zjp ht]; exact h t ht
 ·unfold seen
  rw [show (o.looksAt ops).contains t = false by simpa using ht]; trivial
end
section
variable {α:Type} {P:Program} {T:Tab} {base:Nat} {w0:World} {X Y:Nat->Prop} {idf:Nat->Option Nat} {call:Call α} {out:α} {N:Lot} {dfs:List Deferred} {ι₀:Io} {h₀:H} {w₁:World}
 {ops:Array Oper} {K:Frame->M α} {E:V->M α} {listed:Array Bool} {ι:Io} {h:H} {w:World} {a:Act} {pl:List Do} {done:List Nat} {ρ:Frame}
 {next:Act->World->Prop} {Q:Exit->Act->World->Prop}
theorem Inv.looked (hT:TmpsOk T N ops) (I:Inv P T base w0 Y idf call out N dfs ι₀ h₀ w₁ ops K E listed ι h w a pl done ρ) {i:Nat} {o:Oper} (ho:ops[i]? = some o) (hni:¬ isL listed i) (hpre:∀ e ∈ o.after, Region.binds .any e = true->isL listed e.on) :
  ∀ t ∈ o.looksAt ops, VR ι (okOf h Y) (ρ t) (a.tmps.getD t undef):=fun t ht=>
 I.fr t fun j hj hnj oj hoj hd=>by
  rcases hT.look j i oj o t hoj ho hd ht with hb | ⟨x, hx2, hx3, hx4⟩
  ·exact hnj (zco (S:=isL listed) I.clL ho hpre hb)
  ·have hxd:x ∈ done:=by
    rcases hx4 with rfl | hx4
    ·exact hj
    ·exact zex (S:=fun i=>i ∈ done) I.clD hx4 hj
   exact hni (zex (S:=isL listed) I.clL hx3 (I.hp x hxd hx2))
theorem Inv.word (hT:TmpsOk T N ops) (I:Inv P T base w0 Y idf call out N dfs ι₀ h₀ w₁ ops K E listed ι h w a pl done ρ) {i:Nat} {o:Oper} (ho:ops[i]? = some o) (hni:¬ isL listed i) (hpre:∀ e ∈ o.after, Region.binds .any e = true->isL listed e.on) {b:Bool} (hw:zbo ops o ρ = some b) :
  Region.wanted o (yielded ops a.tmps) = b:=
 wanted_eq (fun j want t hg ht=>I.looked hT ho hni hpre t (zjk hg ht)) hw
theorem fr_put {ι':Io} {h':H} {dst:Option Nat} {v:V} {x:Value} {ρ':Frame} (hd:∀ d, dst = some d->d < a.tmps.size) (hsame:∀ t, dst ≠ some t->ρ' t = ρ t) (hat:∀ d, dst = some d->ρ' d = v)
  (hv:VR ι' (okOf h' X) v x) {t:Nat} (hold:dst ≠ some t->VR ι' (okOf h' X) (ρ t) (a.tmps.getD t undef)):VR ι' (okOf h' X) (ρ' t) ((a.put dst x).tmps.getD t undef):=by
 cases dst with
 | none=>rw [hsame t (by simp)]; exact hold (by simp)
 | some d=>
  rw [zky (hd d rfl)]
  by_cases e:t = d
  ·subst e; rw [if_pos rfl, hat t rfl]; exact hv
  ·rw [if_neg e, hsame t (fun h=>e (by cases h; rfl))]
   exact hold fun h=>e (by cases h; rfl)
theorem op_wpX (hTab:TabOk P T) {o:Oper} {ρ2:Frame} {v:V} {h2:H} (R:HR T base w0 Y ι h w) (hY:∀ i, Y i->i < h.next) (hρ:∀ x, VR ι (okOf h Y) (Go.Ab.ev T ρ2 x) (a.eval x)) (e:zj T zhz ρ2 o K0 E0 h = some (v, h2))
  (hn:∀ ι' x w', HR T base w0 Y ι' h2 w'->Went Y ι h w ι' h2 w'->VR ι' (okOf h2 Y) v x->next (a.put o.dst x) w'):o.wp P a w next Q:=by
 unfold Oper.wp
 rcases zml (P:=P) hTab R hY hρ e with ⟨v', h', ι', x, w', e1, hr, R', W', hv⟩ | ⟨v', x, e1, hr, hv⟩ | ⟨g, args, xs, hr, hv, e1⟩
 ·cases e1
  rcases hr with hr | ⟨rfl, hr⟩
  ·rw [hr]; exact hn ι' x w' R' W' hv
  ·rw [hr]; exact hn ι' undef w' R' W' hv
 ·cases e1
 ·cases e1
theorem Inv.step_pending (hTab:TabOk P T) (hT:TmpsOk T N ops) (hsz:listed.size = ops.size) (I:Inv P T base w0 Y idf call out N dfs ι₀ h₀ w₁ ops K E listed ι h w a pl done ρ) {i:Nat} {o:Oper} (ho:ops[i]? = some o) (hn:¬ isL listed i)
  (hpre:∀ e ∈ o.after, Region.binds .any e = true->isL listed e.on) (hi:i ∈ done) (hnext:∀ Y' ι' a' w', Inv P T base w0 Y' idf call out N dfs ι₀ h₀ w₁ ops K E (listed.setIfInBounds i true) ι' h w' a' pl done ρ->next a' w') :
  if Region.wanted o (yielded ops a.tmps) then o.wp P a w next Q else next (a.put o.dst undef) w:=by
 have hil:i < listed.size:=by rw [hsz]; exact yv ho
 have hlook:=I.looked hT ho hn hpre
 have hdsz:∀ d, o.dst = some d->d < a.tmps.size:=fun d hd=>by rw [I.sz]; exact (hT.fit i o d ho hd).1
 have hci:=zbt (T:=T) ho
 have fin:∀ {Y':Nat->Prop} {ι':Io} {w':World} {v:V} {x:Value}, HR T base w0 Y' ι' h w'->WentX Y' ι₀ h₀ w₁ ι' h w'->(∀ x, Y' x->Y x)->(∀ j ∈ done, j ≠ i->¬ isL listed j->zah T ops j = 3->∀ x, idf j = some x->Y x->Y' x) ->
   (∀ x, Y' x->idf i ≠ some x)->(∀ k, okOf h Y k->ι' k = ι k)->VR ι' (okOf h Y') v x->(∀ d, o.dst = some d->ρ d = v)->next (a.put o.dst x) w':=by
  intro Y' ι' w' v x R' W' hsub hkeep hself hio hv hd
  have hok:∀ k, okOf h Y k->okOf h Y' k:=fun k hk=>⟨hk.1, fun e=>hk.2 (hsub k e)⟩
  refine hnext Y' ι' _ w' ⟨I.ev, I.chk, R', W', by rw [zfw]; exact I.sz, fun p hp=>by rw [zdz (fun e=>(hT.fit i o _ ho e).2 p hp rfl)]; exact I.kp p hp, by rw [zlq]; exact I.df, fun x hx=>I.lt x (hsub x hx), fun x hx=>?_, fun j k x hj hk hnj hnk hcj hck hxj hxk=>?_,
   fun j hj=>?_, fun j hj hc=>(jy hil).2 (.inr (I.hp j hj hc)), I.clD, fun j hj oj hoj e he hb=>?_, fun t ht=>?_, fun j hj hnj oj hoj=>?_⟩
  ·obtain ⟨j, hj, hnj, hcj, hxj⟩:=I.own x (hsub x hx)
   refine ⟨j, hj, fun hl=>?_, hcj, hxj⟩
   rcases (jy hil).1 hl with e | hl
   ·subst e; exact hself x hx hxj
   ·exact hnj hl
  ·exact I.inj j k x hj hk (fun hl=>hnj ((jy hil).2 (.inr hl))) (fun hl=>hnk ((jy hil).2 (.inr hl))) hcj hck hxj hxk
  ·rcases (jy hil).1 hj with rfl | hj
   ·exact hi
   ·exact I.sub j hj
  ·rcases (jy hil).1 hj with rfl | hj
   ·rw [ho] at hoj; cases hoj; exact (jy hil).2 (.inr (hpre e he hb))
   ·exact (jy hil).2 (.inr (I.clL j hj oj hoj e he hb))
  ·refine fr_put hdsz (fun _ _=>rfl) hd hv fun hne=>(I.fr t fun j hj hnj oj hoj=>?_).mono hio hok
   by_cases hji:j = i
   ·subst hji; rw [ho] at hoj; cases hoj; exact hne
   ·exact ht j hj (fun hl=>((jy hil).1 hl).elim hji hnj) oj hoj
  ·have hnj':¬ isL listed j:=fun hl=>hnj ((jy hil).2 (.inr hl))
   have hji:j ≠ i:=fun e=>hnj ((jy hil).2 (.inl e))
   refine ⟨(I.pend j hj hnj' oj hoj).1, fun hc=>((I.pend j hj hnj' oj hoj).2 hc).looks (fun _ _=>rfl) (fun _ _=>rfl) (fun x hx hy=>hkeep j hj hji hnj' (by rw [zbt hoj]; exact hc) x hx hy) (fun _ _ _=>rfl)⟩
 by_cases h3:cls T o = 3
 ·rcases (I.pend i hi hn o ho).2 h3 with ⟨id, h0, hw, hy, cs, l, c, hg, hfl, hd, hall⟩ | ⟨h0, hw, hd⟩
  ·-- it is made now
   rw [if_pos (I.word hT ho hn hpre hw)]
   have hs':zj T zhz (seen ops o ρ) o K0 E0 h = some (.slice ⟨some ⟨h.next, 0⟩, l, c, none⟩, h.push (.cells cs true)):=by
    rw [← zam (ops:=ops) (ρ:=ρ) o (fun t ht=>(zjp ht).symm), hall]; rfl
   refine op_wpX hTab I.R (fun x hx=>(I.lt x hx).2) (fun x=>zmv I.R (zoy hlook) x) hs' fun ι' x w' R' W' hv=>?_
   have R'':=I.R.claim (id:=id) hy (fun x hx=>(I.lt x hx).2) hg hfl R' W'.ext
   have W'':=I.W.claim (id:=id) hy (fun x hx=>(I.lt x hx).2) (I.lt id hy).1 hg I.R.dom W'
   refine fin (v:=.slice ⟨some ⟨id, 0⟩, l, c, none⟩) R'' W'' (fun x hx=>hx.1) (fun j hj hji hnj hcj x hx hyx=>⟨hyx, fun e=>hji ?_⟩) (fun x hx e=>?_) (fun k hk=>?_) ?_ hd
   ·subst e; exact I.inj j i x hj hi hnj hn hcj (by rw [hci]; exact h3) hx h0
   ·rw [h0] at e; cases e; exact hx.2 rfl
   ·show (if k = id then ι' h.next else ι' k) = ι k
    rw [if_neg (fun (e:k = id)=>hk.2 (by rw [e]; exact hy))]
    exact W'.ext k hk.1
   ·obtain ⟨_, b, c', hx, hb, hl, hc⟩:=hv
    refine ⟨⟨(I.lt id hy).2, fun e=>e.2 rfl⟩, b, c', hx, ?_, hl, hc⟩
    rcases hb with hb | hb
    ·exact .inl hb
    ·refine .inr ?_
     rw [hb]
     show Ad.to ι' ⟨h.next, 0⟩ = Ad.to _ ⟨id, 0⟩
     simp [Ad.to]
  ·rw [if_neg (by rw [I.word hT ho hn hpre hw]; simp)]
   exact fin (v:=.tuple []) I.R I.W (fun x hx=>hx) (fun j _ _ _ _ x _ hy=>hy) (fun x _ e=>by rw [h0] at e; cases e) (fun _ _=>rfl) ⟨#[], rfl, trivial⟩ hd
 ·have hidi:∀ x, Y x->∀ (_:idf i = some x), ∃ k ∈ done, ¬ isL listed k ∧ zah T ops k = 3 ∧ idf k = some x:=fun x hx _=>I.own x hx
  -- numbers are told of for slices alone
  have fin':∀ {ι':Io} {w':World} {v:V} {x:Value}, HR T base w0 Y ι' h w'->Went Y ι h w ι' h w'->VR ι' (okOf h Y) v x->(∀ d, o.dst = some d->ρ d = v)->next (a.put o.dst x) w':=by
   intro ι' w' v x R' W' hv hd
   have hok:∀ k, okOf h Y k->okOf h Y k:=fun k hk=>hk
   refine hnext Y ι' _ w' ⟨I.ev, I.chk, R', I.W.trans W', by rw [zfw]; exact I.sz, fun p hp=>by rw [zdz (fun e=>(hT.fit i o _ ho e).2 p hp rfl)]; exact I.kp p hp, by rw [zlq]; exact I.df, I.lt, fun x hx=>?_, fun j k x hj hk hnj hnk hcj hck hxj hxk=>?_,
    fun j hj=>?_, fun j hj hc=>(jy hil).2 (.inr (I.hp j hj hc)), I.clD, fun j hj oj hoj e he hb=>?_, fun t ht=>?_, fun j hj hnj oj hoj=>?_⟩
   ·obtain ⟨j, hj, hnj, hcj, hxj⟩:=I.own x hx
    refine ⟨j, hj, fun hl=>?_, hcj, hxj⟩
    rcases (jy hil).1 hl with e | hl
    ·subst e; rw [hci] at hcj; exact h3 hcj
    ·exact hnj hl
   ·exact I.inj j k x hj hk (fun hl=>hnj ((jy hil).2 (.inr hl))) (fun hl=>hnk ((jy hil).2 (.inr hl))) hcj hck hxj hxk
   ·rcases (jy hil).1 hj with rfl | hj
    ·exact hi
    ·exact I.sub j hj
   ·rcases (jy hil).1 hj with rfl | hj
    ·rw [ho] at hoj; cases hoj; exact (jy hil).2 (.inr (hpre e he hb))
    ·exact (jy hil).2 (.inr (I.clL j hj oj hoj e he hb))
   ·refine fr_put hdsz (fun _ _=>rfl) hd hv fun hne=>(I.fr t fun j hj hnj oj hoj=>?_).mono (fun k hk=>W'.ext k hk.1) hok
    by_cases hji:j = i
    ·subst hji; rw [ho] at hoj; cases hoj; exact hne
    ·exact ht j hj (fun hl=>((jy hil).1 hl).elim hji hnj) oj hoj
   ·exact I.pend j hj (fun hl=>hnj ((jy hil).2 (.inr hl))) oj hoj
  rcases (I.pend i hi hn o ho).1 h3 with ⟨hw, v, hd, hs⟩ | ⟨hw, hd⟩
  ·rw [if_pos (I.word hT ho hn hpre hw)]
   have hs':zj T zhz (seen ops o ρ) o K0 E0 h = some (v, h):=by rw [← hs, zam (ops:=ops) o (fun t ht=>zjp ht)]
   refine op_wpX hTab I.R (fun x hx=>(I.lt x hx).2) (fun x=>zmv I.R (zoy hlook) x) hs' fun ι' x w' R' W' hv=>fin' R' W' hv hd
  ·rw [if_neg (by rw [I.word hT ho hn hpre hw]; simp)]
   exact fin' (v:=.tuple []) I.R (Went.refl Y ι h w) ⟨#[], rfl, trivial⟩ hd
theorem Inv.step_heap (hX0:∀ i, ¬ X i) (hTab:TabOk P T) (hC:zn P T base w0 call) (hT:TmpsOk T N ops) (hsz:listed.size = ops.size) {i:Nat} (I:Inv P T base w0 Y idf call out N dfs ι₀ h₀ w₁ ops K E listed ι h w a (.op i :: pl) done ρ) {o:Oper} (ho:ops[i]? = some o) (hn:¬ isL listed i)
  (hpre:∀ e ∈ o.after, Region.binds .any e = true->isL listed e.on) (hcl:zah T ops i = 2) (hnext:∀ h' ι' a' w' ρ', Inv P T base w0 X idf call out N dfs ι₀ h₀ w₁ ops K E (listed.setIfInBounds i true) ι' h' w' a' pl (i :: done) ρ'->next a' w')
  (hp:∀ v h' ι' x a' w', E v h' = some out->St T base w0 X N dfs ι₀ h₀ w₁ ι' h' w' a'->VR ι' (okOf h' X) v x->Q (.panic [{ v:=x, recovered:=false }]) a' w') :
  if Region.wanted o (yielded ops a.tmps) then o.wp P a w next Q else next (a.put o.dst undef) w:=by
 have hil:i < listed.size:=by rw [hsz]; exact yv ho
 have hlook:=I.looked hT ho hn hpre
 have hdsz:∀ d, o.dst = some d->d < a.tmps.size:=fun d hd=>by rw [I.sz]; exact (hT.fit i o d ho hd).1
 obtain ⟨o', ho', hnd, hpre', _, hlk, hchk⟩:=zem I.chk
 rw [ho] at ho'
 cases ho'
 obtain ⟨o', ho', hev⟩:=zmr I.ev
 rw [ho] at ho'
 cases ho'
 have hcls:cls T o = 2:=by unfold zah at hcl; rw [ho] at hcl; exact hcl
 -- all that was told of was made
 have hno3:∀ j ∈ done, ¬ isL listed j->zah T ops j ≠ 3:=fun j hj hnj hc=>hnj (zco (S:=isL listed) I.clL ho hpre (zek ((hlk hcls j hj).2 hc)))
 have hYX:Y = X:=funext fun x=>propext ⟨fun hx=>(by obtain ⟨j, hj, hnj, hcj, _⟩:=I.own x hx; exact absurd hcj (hno3 j hj hnj)), fun hx=>absurd hx (hX0 x)⟩
 obtain rfl:X = Y:=hYX.symm
 have Ist:St T base w0 X N dfs ι₀ h₀ w₁ ι h w a:=⟨I.R, I.W.to hX0 hX0, hX0, I.sz, I.kp, I.df⟩
 have hap:∀ j ∈ done, ¬ isL listed j->∀ oj, ops[j]? = some oj->(∀ t ∈ oj.looksAt ops, o.dst ≠ some t) ∧ ∀ d, oj.dst = some d->o.dst ≠ some d:=by
  intro j hj hnj oj hoj
  refine ⟨fun t ht hd=>hnd ?_, fun d hd hd'=>hnd ?_⟩
  ·rcases hT.look i j o oj t ho hoj hd ht with hb | ⟨x, hx2, hx3, hx4⟩
   ·exact zex (S:=fun i=>i ∈ done) I.clD hb hj
   ·exfalso
    rcases hx4 with rfl | hx4
    ·exact hnj (zco (S:=isL listed) I.clL ho hpre hx3)
    ·have hxd:x ∈ done:=zco (S:=fun i=>i ∈ done) I.clD ho hpre' hx4
     exact hnj (zex (S:=isL listed) I.clL hx3 (I.hp x hxd hx2))
  ·have:=hT.one j i oj o d hoj ho hd hd'
   subst this; exact hj
 have fin:∀ {h':H} {ι':Io} {w':World} {v:V} {x:Value}, zae T call ops pl (ρ.put o.dst v) K E h' = some out->St T base w0 X N dfs ι₀ h₀ w₁ ι' h' w' (a.put o.dst x)->Went X ι h w ι' h' w' ->
   VR ι' (okOf h' X) v x->(∀ j ∈ done, ¬ isL listed j->∀ oj, ops[j]? = some oj->Pend T ops oj (ρ.put o.dst v) h')->next (a.put o.dst x) w':=by
  intro h' ι' w' v x e S' W' hv hpd
  refine hnext h' ι' _ w' _ ⟨e, hchk, S'.R, WentX.of hX0 S'.W, S'.sz, S'.kp, S'.df, fun x hx=>absurd hx (hX0 x), fun x hx=>absurd hx (hX0 x), fun j k x hj hk hnj hnk hcj hck _ _=>?_, fun j hj=>?_, fun j hj hc=>?_, fun j hj oj hoj e he hb=>?_, fun j hj oj hoj e he hb=>?_, fun t ht=>?_, fun j hj hnj oj hoj=>?_⟩
  ·cases hj with
   | head=>rw [hcl] at hcj; cases hcj
   | tail _ hj=>exact absurd hcj (hno3 j hj (fun hl=>hnj ((jy hil).2 (.inr hl))))
  ·rcases (jy hil).1 hj with rfl | hj
   ·exact List.mem_cons_self
   ·exact List.mem_cons_of_mem _ (I.sub j hj)
  ·cases hj with
   | head=>exact (jy hil).2 (.inl rfl)
   | tail _ hj=>exact (jy hil).2 (.inr (I.hp j hj hc))
  ·cases hj with
   | head=>rw [ho] at hoj; cases hoj; exact List.mem_cons_of_mem _ (hpre' e he hb)
   | tail _ hj=>exact List.mem_cons_of_mem _ (I.clD j hj oj hoj e he hb)
  ·rcases (jy hil).1 hj with rfl | hj
   ·rw [ho] at hoj; cases hoj; exact (jy hil).2 (.inr (hpre e he hb))
   ·exact (jy hil).2 (.inr (I.clL j hj oj hoj e he hb))
  ·refine fr_put hdsz (fun t h=>zak h) (fun d hd=>by rw [hd]; exact zla) hv fun hne=>(I.fr t fun j hj hnj oj hoj=>?_).mono W'.io W'.ok
   have hji:j ≠ i:=fun e=>hnd (e ▸ hj)
   exact ht j (List.mem_cons_of_mem _ hj) (fun hl=>((jy hil).1 hl).elim hji hnj) oj hoj
  ·cases hj with
   | head=>exact absurd ((jy hil).2 (.inl rfl)) hnj
   | tail _ hj=>
    have hnj':¬ isL listed j:=fun hl=>hnj ((jy hil).2 (.inr hl))
    exact ⟨fun _=>hpd j hj hnj' oj hoj, fun hc=>absurd (by rw [zbt hoj]; exact hc) (hno3 j hj hnj')⟩
 rcases hev with ⟨hw, e⟩ | ⟨hw, e⟩
 ·rw [if_pos (I.word hT ho hn hpre hw)]
  rw [zam (ops:=ops) (ρ2:=seen ops o ρ) o (fun t ht=>(zjp ht).symm)] at e
  refine op_wp hTab hC (fun d hd=>hT.fit i o d ho hd) Ist (fun x=>zmv I.R (zoy hlook) x) e (fun v h' ι' x w' e' S' W' hv=>fin e' S' W' hv fun j hj hnj oj hoj=>?_) (fun v h' ι' x w' e' S' hv=>hp v h' ι' x a w' e' S' hv)
  obtain ⟨ha1, ha2⟩:=hap j hj hnj oj hoj
  have hl:∀ t ∈ oj.looksAt ops, ρ t = (ρ.put o.dst v) t:=fun t ht=>(zak (ha1 t ht)).symm
  have hdd:∀ d, oj.dst = some d->ρ d = (ρ.put o.dst v) d:=fun d hd=>(zak (ha2 d hd)).symm
  have hc3:cls T oj ≠ 3:=fun hc=>hno3 j hj hnj (by rw [zbt hoj]; exact hc)
  rcases (I.pend j hj hnj oj hoj).1 hc3 with ⟨hwj, vj, hdj, hsj⟩ | ⟨hwj, hdj⟩
  ·refine .inl ⟨by rw [← yr oj hl]; exact hwj, vj, fun d hd=>by rw [← hdd d hd]; exact hdj d hd, ?_⟩
   rw [← zam oj hl]
   have hcj:zah T ops j ≠ 2:=fun hc=>hnj (I.hp j hj hc)
   cases hpj:zcx T oj.op with
   | true=>
    obtain ⟨v', h1, h2⟩:=zha hpj hsj
    cases h1
    exact h2 _ _ _ _ _
   | false=>
    have hc1:zah T ops j = 1:=by
     rw [zbt hoj] at hcj ⊢
     exact zll hcj hc3 hpj
    have hlj:j ∈ zfr pl:=by
     rcases (hlk hcls j hj).1 hc1 with hb | hb
     ·exact absurd (zco (S:=isL listed) I.clL ho hpre (zek hb)) hnj
     ·exact hb
    obtain ⟨oj', hoj', t, x', d, hop, hd, hf⟩:=zhs e' j hlj
    rw [hoj] at hoj'
    cases hoj'
    obtain ⟨v', p, ti, vs, hp1, hti, hld, hv', h1, h2⟩:=zln hop hsj
    cases h1
    have hρd:(ρ.put o.dst v) d = vj:=by rw [← hdd d hd]; exact hdj d hd
    -- what was read is one cell's, or an aggregate
    have hone:ti.agg = false->oneV vj = true:=by
     intro ha
     rw [ha] at hv'
     simp only [Bool.false_eq_true, if_false] at hv'
     subst hv'
     have h3:=hld _ (fun vs h=>(some vs:Option (List V)))
     have h4:∃ K':List V->M (List V), zbr p 0 ti.sh K' h = some [vj] ∧ K' = fun vs _=>some vs:=⟨_, h3, rfl⟩
     obtain ⟨K', h5, hK⟩:=h4
     obtain ⟨us, hl1, hl2, hl3⟩:=zgm h5
     rw [hK] at hl3
     cases hl3
     have hx:=hl2 0 (by rw [← hl1]; simp)
     simp only [List.getElem?_cons_zero] at hx
     exact (I.R.cell (a:=p.add (0 + 0)) (hX0 _) hx).choose_spec.2.2
    rcases hf with hu | ⟨p2, ti2, hp2, hti2, hl2⟩
    ·exfalso
     rw [hρd] at hu
     subst hu
     cases ha:ti.agg with
     | true=>rw [ha] at hv'; simp at hv'
     | false=>have:=hone ha; simp [oneV] at this
    ·have e1:Go.Ab.ev T (ρ.put o.dst v) x' = Go.Ab.ev T ρ x':=(zpd fun t' ht=>hl t' (zgp (by rw [hop]; simp [Op.operands]; exact ht.symm))).symm
     rw [e1, hp1] at hp2
     cases hp2
     rw [hti] at hti2
     cases hti2
     simp only [zj, hop, hp1, hti]
     show zbr p 0 ti.sh (fun cs=>Go.Ab.mk ti.agg cs K0) h' = _
     rw [hl2, hρd]
     cases ha:ti.agg with
     | true=>
      rw [ha] at hv'
      simp only [if_true] at hv'
      subst hv'
      rfl
     | false=>
      have h1:=hone ha
      have:vj.cells = [vj]:=by cases vj <;> first | rfl | (simp [oneV] at h1)
      rw [this]
      rfl
  ·exact .inr ⟨by rw [← yr oj hl]; exact hwj, fun d hd=>by rw [← hdd d hd]; exact hdj d hd⟩
 ·rw [if_neg (by rw [I.word hT ho hn hpre hw]; simp)]
  refine fin e (Ist.go (fun d hd=>hT.fit i o d ho hd) I.R (Went.refl X ι h w)) (Went.refl X ι h w) ⟨#[], rfl, trivial⟩ fun j hj hnj oj hoj=>?_
  obtain ⟨ha1, ha2⟩:=hap j hj hnj oj hoj
  exact ((I.pend j hj hnj oj hoj).1 (fun hc=>hno3 j hj hnj (by rw [zbt hoj]; exact hc))).looks (fun t ht=>(zak (ha1 t ht)).symm) (fun d hd=>(zak (ha2 d hd)).symm)
end
def unl (n:Nat) (listed:Array Bool):Nat:=(List.range n).countP fun i=>!listed.getD i false
theorem znj {f g:Nat->Bool} {i:Nat} (hf:f i = true) (hg:g i = false) (h:∀ j, j ≠ i->g j = f j):∀ n, i < n->(List.range n).countP f = (List.range n).countP g + 1
 | 0, hi=>by omega
 | n + 1, hi=>by
  rw [List.range_succ, List.countP_append, List.countP_append]
  by_cases e:i = n
  ·subst e
   have:(List.range i).countP f = (List.range i).countP g:=List.countP_congr fun j hj=>by
    rw [h j (by have:=List.mem_range.1 hj; omega)]
   rw [this]
   simp [hf, hg]
  ·rw [znj hf hg h n (by omega)]
   have:g n = f n:=h n (fun e'=>e e'.symm)
   simp only [List.countP_cons, List.countP_nil, this]
   omega
theorem unl_set {n:Nat} {listed:Array Bool} {i:Nat} (hsz:listed.size = n) (hi:i < n) (hn:¬ isL listed i):unl n listed = unl n (listed.setIfInBounds i true) + 1:=by
 have hil:i < listed.size:=by omega
 refine znj (i:=i) ?_ ?_ (fun j hj=>?_) n hi
 ·simpa [isL] using hn
 ·have:isL (listed.setIfInBounds i true) i:=(jy hil).2 (.inl rfl)
  unfold isL at this
  rw [this]; rfl
 ·rw [getD_set_ne false (Ne.symm hj)]
theorem unl_zero {n:Nat} {listed:Array Bool} (h:unl n listed = 0):∀ i, i < n->isL listed i:=by
 intro i hi
 have:=(List.countP_eq_zero.1 h) i (List.mem_range.2 hi)
 simpa [isL] using this
theorem zrl {ops:Array Oper} (hE:zhr ops = true) {listed:Array Bool} (hsz:listed.size = ops.size) (hr:Region.ready .any ops listed = []):∀ i, i < ops.size->isL listed i:=by
 intro i
 induction i using Nat.strongRecOn with
 | _ i ih=>
  intro hi
  by_cases hl:isL listed i
  ·exact hl
  ·exfalso
   have hm:i ∈ Region.ready .any ops listed:=mem_ready.2 ⟨by
    unfold isL at hl
    have:i < listed.size:=by omega
    simp [this] at hl ⊢
    exact hl, ops[i], by simp [hi], fun e he hb=>ih e.on (zpj hE (by simp [hi]) he hb) (Nat.lt_trans (zpj hE (by simp [hi]:ops[i]? = some ops[i]) he hb) hi)⟩
   rw [hr] at hm
   cases hm
section
variable {α:Type} {P:Program} {T:Tab} {base:Nat} {w0:World} {X:Nat->Prop} {call:Call α} {out:α} {N:Lot} {dfs:List Deferred} {ι₀:Io} {h₀:H} {w₁:World}
 {ops:Array Oper} {K:Frame->M α} {E:V->M α} {Q:Exit->Act->World->Prop}
theorem zkq (T:Tab) (call:Call α) (K:Frame->M α) (E:V->M α) (ρ:Frame) (h:H) (out:α):∀ (pl:List Do) (done:List Nat), zae T call ops pl ρ K E h = some out ->
  zcw T ops (befs ops.toList []) pl done = true->(∀ i, i < ops.size->i ∈ done)->K ρ h = some out
 | [], _, e, _, _=>e
 | .op j :: pl, done, e, hc, hd=>by
  obtain ⟨o, ho, hnd, _⟩:=zem hc
  exact absurd (hd j (yv ho)) hnd
 | .look j :: pl, done, e, hc, hd=>zkq T call K E ρ h out pl done (zfg e).2 hc hd
 | .expect _ _ :: pl, done, e, hc, hd=>zkq T call K E ρ h out pl done (zed e) hc hd
theorem drawn_any (hX0:∀ i, ¬ X i) (hTab:TabOk P T) (hC:zn P T base w0 call) (hE:zhr ops = true) (hT:TmpsOk T N ops)
  (hn:∀ ρ' h' ι' a' w', K ρ' h' = some out->St T base w0 X N dfs ι₀ h₀ w₁ ι' h' w' a'->FR ι' (okOf h' X) ρ' a'->Q .normal a' w')
  (hp:∀ v h' ι' x a' w', E v h' = some out->St T base w0 X N dfs ι₀ h₀ w₁ ι' h' w' a'->VR ι' (okOf h' X) v x->Q (.panic [{ v:=x, recovered:=false }]) a' w') :
  ∀ (fuel:Nat) (listed:Array Bool) (ι:Io) (h:H) (a:Act) (w:World) (pl:List Do) (done:List Nat) (ρ:Frame) (Y:Nat->Prop) (idf:Nat->Option Nat), listed.size = ops.size->unl ops.size listed = fuel ->
   Inv P T base w0 Y idf call out N dfs ι₀ h₀ w₁ ops K E listed ι h w a pl done ρ->wpAny P .any ops Q fuel listed a w:=by
 have stop:∀ {listed:Array Bool} {ι:Io} {h:H} {a:Act} {w:World} {pl:List Do} {done:List Nat} {ρ:Frame} {Y:Nat->Prop} {idf:Nat->Option Nat}, (∀ i, i < ops.size->isL listed i) ->
   Inv P T base w0 Y idf call out N dfs ι₀ h₀ w₁ ops K E listed ι h w a pl done ρ->Q .normal a w:=by
  intro listed ι h a w pl done ρ Y idf hall I
  have hYX:Y = X:=funext fun x=>propext ⟨fun hx=>(by obtain ⟨j, hj, hnj, hcj, _⟩:=I.own x hx; obtain ⟨o, ho⟩:=zlz hcj; exact absurd (hall j (yv ho)) hnj), fun hx=>absurd hx (hX0 x)⟩
  subst hYX
  refine hn ρ h ι a w (zkq T call K E ρ h out pl done I.ev I.chk fun i hi=>I.sub i (hall i hi)) ⟨I.R, I.W.to hX0 hX0, hX0, I.sz, I.kp, I.df⟩ fun t=>I.fr t fun i hi hnl o ho=>absurd (hall i (yv ho)) hnl
 intro fuel
 induction fuel with
 | zero=>
  intro listed ι h a w pl done ρ Y idf hsz hu I
  have hall:=unl_zero hu
  refine ⟨?_, stop hall I⟩
  cases hr:Region.ready .any ops listed with
  | nil=>rfl
  | cons i l=>
   have hm:i ∈ Region.ready .any ops listed:=by rw [hr]; exact List.mem_cons_self
   obtain ⟨h1, o, ho, _⟩:=mem_ready.1 hm
   have:=hall i (yv ho)
   have hil:i < listed.size:=by rw [hsz]; exact yv ho
   unfold isL at this
   simp [hil] at h1 this
   rw [this] at h1; cases h1
 | succ fuel ih=>
  intro listed ι h a w pl done ρ Y idf hsz hu I
  refine ⟨fun hr=>stop (zrl hE hsz hr) I, fun i hm=>?_⟩
  obtain ⟨h1, o, ho, hpre'⟩:=mem_ready.1 hm
  have hil:i < listed.size:=by rw [hsz]; exact yv ho
  have hnl:¬ isL listed i:=by
   unfold isL
   simp [hil] at h1 ⊢
   exact h1
  have hpre:∀ e ∈ o.after, Region.binds .any e = true->isL listed e.on:=hpre'
  have hsz':(listed.setIfInBounds i true).size = ops.size:=by simpa using hsz
  have hu':unl ops.size (listed.setIfInBounds i true) = fuel:=by
   have:=unl_set hsz (yv ho) hnl
   omega
  have goal:(if Region.wanted o (yielded ops a.tmps) then o.wp P a w (wpAny P .any ops Q fuel (listed.setIfInBounds i true)) Q else wpAny P .any ops Q fuel (listed.setIfInBounds i true) (a.put o.dst undef) w) ->
    wpOp P ops Q i (wpAny P .any ops Q fuel (listed.setIfInBounds i true)) a w:=by
   intro hg
   unfold wpOp
   rw [ho]
   dsimp only
   split
   ·rename_i hw; rw [if_pos hw] at hg; exact .inl hg
   ·rename_i hw; rw [if_neg hw] at hg; exact hg
  apply goal
  by_cases hd:i ∈ done
  ·exact I.step_pending hTab hT hsz ho hnl hpre hd fun Y' ι' a' w' I'=>ih _ ι' h a' w' pl done ρ Y' idf hsz' hu' I'
  ·obtain ⟨pl', done', ρ', h', Y', idf', I', hd' | ⟨hd', hcl, pl'', rfl⟩⟩:=Inv.reach hT ho hnl hpre pl done ρ h Y idf I hd
   ·exact I'.step_pending hTab hT hsz ho hnl hpre hd' fun Y'' ι' a' w' I''=>ih _ ι' h' a' w' pl' done' ρ' Y'' idf' hsz' hu' I''
   ·exact I'.step_heap hX0 hTab hC hT hsz ho hnl hpre hcl (fun h'' ι' a' w' ρ'' I''=>ih _ ι' h'' a' w' pl'' (i :: done') ρ'' X idf' hsz' hu' I'') hp
theorem drawn_ok (hm:P.follows .mixedOrders = true) (hX0:∀ i, ¬ X i) (hTab:TabOk P T) (hC:zn P T base w0 call) {plan:List Do} (hchk:zoc T N.n ops plan = true) (hkp:zhh (N.kp.map (·.1)) ops = true) {id:Nat} {ρ:Frame} {h:H} {ι:Io} {a:Act} {w:World}
  (S:St T base w0 X N dfs ι₀ h₀ w₁ ι h w a) (F:FR ι (okOf h X) ρ a) (e:zae T call ops plan ρ K E h = some out)
  (hn:∀ ρ' h' ι' a' w', K ρ' h' = some out->St T base w0 X N dfs ι₀ h₀ w₁ ι' h' w' a'->FR ι' (okOf h' X) ρ' a'->Q .normal a' w')
  (hp:∀ v h' ι' x a' w', E v h' = some out->St T base w0 X N dfs ι₀ h₀ w₁ ι' h' w' a'->VR ι' (okOf h' X) v x->Q (.panic [{ v:=x, recovered:=false }]) a' w') :
  (Code.region id ops true).wp P Q a w:=by
 unfold zoc at hchk
 simp only [Bool.and_eq_true] at hchk
 obtain ⟨⟨hE, hT⟩, hG⟩:=hchk
 have hT:=tmps_ok hT hkp
 refine wp_region_draw fun t=>?_
 have hs:Region.schedule (P.follows .mixedOrders) ops t = Region.linearise .any ops t:=by
  unfold Region.schedule
  rw [hm]
  rfl
 rw [hs]
 refine wpAny_sound ops.size t _ a _ (drawn_any hX0 hTab hC hE hT hn hp ops.size (Array.replicate ops.size false) ι h a _ plan [] ρ X (fun _=>none) (by simp) ?_ ?_)
 ·unfold unl
  have:∀ i ∈ List.range ops.size, (!(Array.replicate ops.size false).getD i false) = true:=by
   intro i hi
   have:=List.mem_range.1 hi
   simp [this]
  rw [List.countP_eq_length.2 this, List.length_range]
 ·have hno:∀ i, ¬ isL (Array.replicate ops.size false) i:=by
   intro i hi
   unfold isL at hi
   simp only [Array.getD_eq_getD_getElem?] at hi
   rw [Array.getElem?_replicate] at hi
   split at hi <;> cases hi
  have S':=S.go' (w':=w.drew) S.R.drew (Went.drew X ι h w)
  refine ⟨e, hG, S'.R, WentX.of hX0 S'.W, S'.sz, S'.kp, S'.df, fun x hx=>absurd hx (hX0 x), fun x hx=>absurd hx (hX0 x), fun _ _ _ hi=>(by cases hi), fun i hi=>absurd hi (hno i), fun i hi=>(by cases hi), fun i hi=>(by cases hi), fun i hi=>absurd hi (hno i), fun t _=>F t, fun i hi=>(by cases hi)⟩
end
end Go.Ab
