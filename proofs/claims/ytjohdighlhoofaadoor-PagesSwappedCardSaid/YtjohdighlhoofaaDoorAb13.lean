import Derived.Test.YtjohdighlhoofaaDoorAb12
set_option linter.unusedVariables false
set_option linter.unusedSimpArgs false
namespace Go.Ab
def zdt {β:Type}:Call β:=fun _ _ _=>fail
def K0:V->M (V × H):=fun v h=>some (v, h)
def E0:V->M (V × H):=fun _ _=>none
def Pend (T:Tab) (ops:Array Oper) (o:Oper) (ρ:zb) (h:H):Prop:=
 (zap ops o ρ = some true ∧ ∃ v, (∀ d, o.dst = some d->ρ d = v) ∧ zf T zdt ρ o K0 E0 h = some (v, h)) ∨
 (zap ops o ρ = some false ∧ ∀ d, o.dst = some d->ρ d = .tuple [])
theorem zcm {ops:Array Oper} {o:Oper} {t:Nat} (h:Operand.tmp t ∈ o.op.operands):t ∈ o.looksAt ops:=
 List.mem_append_left _ (List.mem_filterMap.2 ⟨.tmp t, by simpa using h, rfl⟩)
theorem zhd {ops:Array Oper} {o:Oper} {j t:Nat} {want:Bool} (hg:o.guard = some (j, want)) (ht:zcw ops j = some t):t ∈ o.looksAt ops:=by
 refine List.mem_append_right _ ?_
 rw [hg]
 unfold zcw at ht
 cases ho:ops[j]? with
 | none=>rw [ho] at ht; cases ht
 | some o'=>
  rw [ho] at ht
  dsimp only at ht
  simp [ho, ht]
theorem jw {α:Type} {T:Tab} {ops:Array Oper} {call:Call α} {ρ ρ2:zb} {K E:V->M α} (o:Oper) (h:∀ t ∈ o.looksAt ops, ρ t = ρ2 t) :
  zf T call ρ o K E = zf T call ρ2 o K E:=
 zlb o fun x hx=>ziy fun t ht=>h t (zcm (ht ▸ hx))
theorem jf {ops:Array Oper} {ρ ρ2:zb} (o:Oper) (h:∀ t ∈ o.looksAt ops, ρ t = ρ2 t):zap ops o ρ = zap ops o ρ2:=by
 unfold zap
 cases hg:o.guard with
 | none=>rfl
 | some gw=>
  obtain ⟨j, want⟩:=gw
  dsimp only
  cases ht:zcw ops j with
  | none=>rfl
  | some t=>
   dsimp only
   rw [h t (zhd hg ht)]
theorem Pend.looks {T:Tab} {ops:Array Oper} {o:Oper} {ρ ρ2:zb} {h:H} (p:Pend T ops o ρ h) (hl:∀ t ∈ o.looksAt ops, ρ t = ρ2 t) (hd:∀ d, o.dst = some d->ρ d = ρ2 d):Pend T ops o ρ2 h:=by
 rcases p with ⟨h1, v, h2, h3⟩ | ⟨h1, h2⟩
 ·exact .inl ⟨by rw [← jf o hl]; exact h1, v, fun d hd'=>by rw [← hd d hd']; exact h2 d hd', by rw [← jw o hl]; exact h3⟩
 ·exact .inr ⟨by rw [← jf o hl]; exact h1, fun d hd'=>by rw [← hd d hd']; exact h2 d hd'⟩
theorem jo {ρ:zb} {dst:Option Nat} {v:V} {t:Nat} (h:dst ≠ some t):(ρ.put dst v) t = ρ t:=by
 cases dst with
 | none=>rfl
 | some d=>
  show cond (Nat.beq t d) v (ρ t) = ρ t
  rw [jx (fun e=>h (by rw [e]))]; rfl
theorem zgl {ρ:zb} {v:V} {t:Nat}:(ρ.put (some t) v) t = v:=by
 show cond (Nat.beq t t) v (ρ t) = v
 simp
theorem zke {T:Tab} {o:Oper}:cls T o = 0 ∨ cls T o = 1 ∧ (∃ t x, o.op = .load t x) ∨ cls T o = 2 ∨ cls T o = 3:=by
 unfold cls
 cases zba T o.op with
 | true=>exact .inl rfl
 | false=>
  simp only [cond_false]
  generalize o.op = op
  cases op <;> first | exact .inr (.inr (.inl rfl)) | exact .inr (.inr (.inr rfl)) | exact .inr (.inl ⟨rfl, _, _, rfl⟩) | skip
  rename_i t
  dsimp only
  cases T.spec t
  ·exact .inr (.inr (.inr rfl))
  ·exact .inr (.inr (.inl rfl))
theorem zfs {T:Tab} {o:Oper} (h2:cls T o ≠ 2) (h3:cls T o ≠ 3) (hp:zba T o.op = false):cls T o = 1:=by
 rcases zke (T:=T) (o:=o) with h | h | h | h
 ·exfalso
  unfold cls at h
  rw [hp] at h
  simp only [cond_false] at h
  generalize o.op = op at h
  cases op <;> first | (cases h; done) | skip
  rename_i t
  dsimp only at h
  cases hs:T.spec t <;> rw [hs] at h <;> cases h
 ·exact h.1
 ·exact absurd h h2
 ·exact absurd h h3
theorem cls_is1 {T:Tab} {o:Oper} (h:cls T o = 1):∃ t x, o.op = .load t x:=by
 rcases zke (T:=T) (o:=o) with h' | h' | h' | h'
 ·rw [h] at h'; cases h'
 ·exact h'.2
 ·rw [h] at h'; cases h'
 ·rw [h] at h'; cases h'
def zip (T:Tab) (ops:Array Oper) (o:Oper) (ρ:zb) (h:H) (Y:Nat->Prop) (id:Option Nat):Prop:=
 (∃ x, id = some x ∧ zap ops o ρ = some true ∧ Y x ∧ ∃ cs m, h.get x = some (.cells cs true) ∧ cs.all oneV = true ∧ (∀ d, o.dst = some d->ρ d = mvV m x) ∧
  ∀ (β:Type) (cl:Call β) (K' E':V->M β) (g:H), zf T cl ρ o K' E' g = K' (mvV m g.next) (g.push (.cells cs true))) ∨
 (id = none ∧ zap ops o ρ = some false ∧ ∀ d, o.dst = some d->ρ d = .tuple [])
theorem zip.looks {T:Tab} {ops:Array Oper} {o:Oper} {ρ ρ2:zb} {h h2:H} {Y Y2:Nat->Prop} {id:Option Nat} (p:zip T ops o ρ h Y id) (hl:∀ t ∈ o.looksAt ops, ρ t = ρ2 t) (hd:∀ d, o.dst = some d->ρ d = ρ2 d)
  (hy:∀ x, id = some x->Y x->Y2 x) (hg:∀ x, id = some x->Y x->h2.get x = h.get x):zip T ops o ρ2 h2 Y2 id:=by
 rcases p with ⟨x, h0, h1, h2, cs, m, h3, h4, h5, h6⟩ | ⟨h0, h1, h2⟩
 ·exact .inl ⟨x, h0, by rw [← jf o hl]; exact h1, hy x h0 h2, cs, m, by rw [hg x h0 h2]; exact h3, h4, fun d hd'=>by rw [← hd d hd']; exact h5 d hd', fun β cl K' E' g=>by rw [← jw o hl]; exact h6 β cl K' E' g⟩
 ·exact .inr ⟨h0, by rw [← jf o hl]; exact h1, fun d hd'=>by rw [← hd d hd']; exact h2 d hd'⟩
theorem Pend.push {T:Tab} {ops:Array Oper} {o:Oper} {ρ:zb} {h:H} (b:Blk) (hdom:∀ i c, h.get i = some c->i < h.next) (h2:cls T o ≠ 2) (h3:cls T o ≠ 3) (p:Pend T ops o ρ h):Pend T ops o ρ (h.push b):=by
 rcases p with ⟨h1, v, hd, hs⟩ | p
 ·refine .inl ⟨h1, v, hd, ?_⟩
  cases hp:zba T o.op with
  | true=>
   obtain ⟨v', h1, h2⟩:=zdd hp hs
   cases h1
   exact h2 _ _ _ _ _
  | false=>
   have hl:∃ t x, o.op = .load t x:=cls_is1 (zfs h2 h3 hp)
   obtain ⟨t, x, hl⟩:=hl
   obtain ⟨v', f1, f2⟩:=load_push (b:=b) hdom hl hs
   rw [f1] at hs
   cases hs
   exact f2 _ _ _ _
 ·exact .inr p
section
variable {α:Type} {P:Program} {T:Tab} {base:Nat} {w0:World} {X Y:Nat->Prop} {idf:Nat->Option Nat} {call:Call α} {out:α} {N:Lot} {dfs:List Deferred} {ι₀:Io} {h₀:H} {w₁:World}
 {ops:Array Oper} {K:zb->M α} {E:V->M α}
def isL (l:Array Bool) (i:Nat):Prop:=l.getD i false = true
structure Inv (P:Program) (T:Tab) (base:Nat) (w0:World) (Y:Nat->Prop) (idf:Nat->Option Nat) (call:Call α) (out:α) (N:Lot) (dfs:List Deferred) (ι₀:Io) (h₀:H) (w₁:World) (ops:Array Oper) (K:zb->M α) (E:V->M α)
  (listed:Array Bool) (ι:Io) (h:H) (w:World) (a:Act) (pl:List Do) (done:List Nat) (ρ:zb):Prop where
 ev:ya T call ops pl ρ K E h = some out
 chk:zbk T ops (befs ops.toList []) pl done = true
 R:HR T base w0 Y ι h w
 W:WentX Y ι₀ h₀ w₁ ι h w
 sz:a.tmps.size = N.n
 kp:∀ p ∈ N.kp, a.tmps.getD p.1 undef = p.2
 df:a.defers = dfs
 lt:∀ x, Y x->h₀.next≤x ∧ x < h.next
 own:∀ x, Y x->∃ i ∈ done, ¬ isL listed i ∧ yb T ops i = 3 ∧ idf i = some x
 inj:∀ i j x, i ∈ done->j ∈ done->¬ isL listed i->¬ isL listed j->yb T ops i = 3->yb T ops j = 3->idf i = some x->idf j = some x->i = j
 sub:∀ i, isL listed i->i ∈ done
 hp:∀ i ∈ done, yb T ops i = 2->isL listed i
 clD:∀ i ∈ done, ∀ o, ops[i]? = some o->∀ e ∈ o.after, Region.binds .any e = true->e.on ∈ done
 clL:∀ i, isL listed i->∀ o, ops[i]? = some o->∀ e ∈ o.after, Region.binds .any e = true->isL listed e.on
 fr:∀ t, (∀ i ∈ done, ¬ isL listed i->∀ o, ops[i]? = some o->o.dst ≠ some t)->VR ι (okOf h Y) (ρ t) (a.tmps.getD t undef)
 pend:∀ i ∈ done, ¬ isL listed i->∀ o, ops[i]? = some o->(cls T o ≠ 3->Pend T ops o ρ h) ∧ (cls T o = 3->zip T ops o ρ h Y (idf i))
variable {listed:Array Bool} {ι:Io} {h:H} {w:World} {a:Act} {pl:List Do} {done:List Nat} {ρ:zb}
theorem zbp {S:Nat->Prop} (hc:∀ i, S i->∀ o, ops[i]? = some o->∀ e ∈ o.after, Region.binds .any e = true->S e.on) {i j:Nat} (hb:Bef ops i j):S j->S i:=by
 induction hb with
 | one ho he hb=>exact fun hj=>hc _ hj _ ho _ he hb
 | cons ho he hb _ ih=>exact fun hj=>ih (hc _ hj _ ho _ he hb)
theorem zac {S:Nat->Prop} (hc:∀ i, S i->∀ o, ops[i]? = some o->∀ e ∈ o.after, Region.binds .any e = true->S e.on) {i j:Nat} {o:Oper} (ho:ops[j]? = some o) (hr:∀ e ∈ o.after, Region.binds .any e = true->S e.on) (hb:Bef ops i j):S i:=by
 cases hb with
 | one ho' he hb=>rw [ho] at ho'; cases ho'; exact hr _ he hb
 | cons ho' he hb hbb=>rw [ho] at ho'; cases ho'; exact zbp hc hbb (hr _ he hb)
theorem zab {i:Nat} {o:Oper} (ho:ops[i]? = some o):yb T ops i = cls T o:=by unfold yb; rw [ho]
theorem zev {i:Nat} (h:yb T ops i = 3):∃ o, ops[i]? = some o:=by
 cases ho:ops[i]? with
 | none=>unfold yb at h; rw [ho] at h; cases h
 | some o=>exact ⟨o, rfl⟩
theorem Inv.adv (hT:TmpsOk T N ops) {j:Nat} (I:Inv P T base w0 Y idf call out N dfs ι₀ h₀ w₁ ops K E listed ι h w a (.op j :: pl) done ρ) (hj:yb T ops j ≠ 2) :
  ∃ Y' idf' h' ρ', Inv P T base w0 Y' idf' call out N dfs ι₀ h₀ w₁ ops K E listed ι h' w a pl (j :: done) ρ':=by
 obtain ⟨o, ho, hnd, hpre, hhp, hlk, hchk⟩:=zbr I.chk
 obtain ⟨o', ho', hev⟩:=zgm I.ev
 rw [ho] at ho'
 cases ho'
 have hnl:¬ isL listed j:=fun hl=>hnd (I.sub j hl)
 have hcj:=zab (T:=T) ho
 rw [hcj] at hj
 -- what stands apart from j's own place
 have hap:∀ i ∈ done, ¬ isL listed i->∀ oi, ops[i]? = some oi->(∀ t ∈ oi.looksAt ops, o.dst ≠ some t) ∧ ∀ d, oi.dst = some d->o.dst ≠ some d:=by
  intro i hi hni oi hoi
  have hcl:∀ i, i ∈ done->∀ o, ops[i]? = some o->∀ e ∈ o.after, Region.binds .any e = true->e.on ∈ done:=I.clD
  refine ⟨fun t ht hd=>hnd ?_, fun d hd hd'=>hnd ?_⟩
  ·rcases hT.look j i o oi t ho hoi hd ht with hb | ⟨x, hx2, hx3, hx4⟩
   ·exact zbp (S:=fun i=>i ∈ done) hcl hb hi
   ·exfalso
    rcases hx4 with rfl | hx4
    ·rw [zab ho] at hx2; exact hj hx2
    ·have hxd:x ∈ done:=zac (S:=fun i=>i ∈ done) I.clD ho hpre hx4
     exact hni (zbp (S:=isL listed) I.clL hx3 (I.hp x hxd hx2))
  ·have:=hT.one i j oi o d hoi ho hd hd'
   subst this; exact hi
 have hself:∀ v, ∀ t ∈ o.looksAt ops, ρ t = (ρ.put o.dst v) t:=by
  intro v t ht
  exact (jo fun hd=>hT.self j o t ho hd ht).symm
 have hne:∀ i ∈ done, i ≠ j:=fun i hi e=>hnd (e ▸ hi)
 have clD':∀ i ∈ j :: done, ∀ o, ops[i]? = some o->∀ e ∈ o.after, Region.binds .any e = true->e.on ∈ j :: done:=by
  intro i hi oi hoi e he hb
  cases hi with
  | head=>rw [ho] at hoi; cases hoi; exact List.mem_cons_of_mem _ (hpre e he hb)
  | tail _ hi=>exact List.mem_cons_of_mem _ (I.clD i hi oi hoi e he hb)
 have hp':∀ i ∈ j :: done, yb T ops i = 2->isL listed i:=by
  intro i hi hc
  cases hi with
  | head=>rw [hcj] at hc; exact absurd hc hj
  | tail _ hi=>exact I.hp i hi hc
 have idold:∀ i ∈ done, ¬ isL listed i->yb T ops i = 3->∀ x, idf i = some x->Y x:=by
  intro i hi hn hc x hx
  obtain ⟨oi, hoi⟩:=zev hc
  rcases (I.pend i hi hn oi hoi).2 (by rw [← zab hoi]; exact hc) with ⟨y, h0, _, hy, _⟩ | ⟨h0, _⟩
  ·rw [h0] at hx; cases hx; exact hy
  ·rw [h0] at hx; cases hx
 -- what is as it was but for the frame's place
 have same:∀ (idf':Nat->Option Nat) (v:V), (∀ i ∈ done, idf' i = idf i)->(cls T o = 3->idf' j = none)->ya T call ops pl (ρ.put o.dst v) K E h = some out->((cls T o ≠ 3->Pend T ops o (ρ.put o.dst v) h) ∧ (cls T o = 3->zip T ops o (ρ.put o.dst v) h Y (idf' j))) ->
   Inv P T base w0 Y idf' call out N dfs ι₀ h₀ w₁ ops K E listed ι h w a pl (j :: done) (ρ.put o.dst v):=by
  intro idf' v hid hidj e hpd
  refine ⟨e, hchk, I.R, I.W, I.sz, I.kp, I.df, I.lt, fun x hx=>?_, fun i k x hi hk hni hnk hci hck hxi hxk=>?_, fun i hi=>List.mem_cons_of_mem _ (I.sub i hi), hp', clD', I.clL, fun t ht=>?_, fun i hi hn oi hoi=>?_⟩
  ·obtain ⟨i, hi, h1, h2, h3⟩:=I.own x hx
   exact ⟨i, List.mem_cons_of_mem _ hi, h1, h2, by rw [hid i hi]; exact h3⟩
  ·cases hi with
   | head=>rw [hcj] at hci; rw [hidj hci] at hxi; cases hxi
   | tail _ hi=>cases hk with
    | head=>rw [hcj] at hck; rw [hidj hck] at hxk; cases hxk
    | tail _ hk=>exact I.inj i k x hi hk hni hnk hci hck (by rw [← hid i hi]; exact hxi) (by rw [← hid k hk]; exact hxk)
  ·rw [jo (ht j List.mem_cons_self hnl o ho)]
   exact I.fr t fun i hi=>ht i (List.mem_cons_of_mem _ hi)
  ·cases hi with
   | head=>rw [ho] at hoi; cases hoi; exact hpd
   | tail _ hi=>
    obtain ⟨h1, h2⟩:=hap i hi hn oi hoi
    have hl:∀ t ∈ oi.looksAt ops, ρ t = (ρ.put o.dst v) t:=fun t ht=>(jo (h1 t ht)).symm
    have hd:∀ d, oi.dst = some d->ρ d = (ρ.put o.dst v) d:=fun d hd=>(jo (h2 d hd)).symm
    refine ⟨fun hc=>((I.pend i hi hn oi hoi).1 hc).looks hl hd, fun hc=>?_⟩
    rw [hid i hi]
    exact ((I.pend i hi hn oi hoi).2 hc).looks hl hd (fun _ _ h=>h) (fun _ _ _=>rfl)
 rcases hev with ⟨hw, e⟩ | ⟨hw, e⟩
 ·by_cases h3:cls T o = 3
  ·-- memory is told of
   obtain ⟨cs, m, e1, hfl, hall⟩:=zmk h3 e
   refine ⟨fun x=>Y x ∨ x = h.next, fun i=>if i = j then some h.next else idf i, h.push (.cells cs true), ρ.put o.dst (mvV m h.next), e1, hchk, I.R.reserve _, I.W.reserve _, I.sz, I.kp, I.df, ?_, ?_, ?_,
    fun i hi=>List.mem_cons_of_mem _ (I.sub i hi), hp', clD', I.clL, ?_, ?_⟩
   ·rintro x (hx | rfl)
    ·have:=I.lt x hx; exact ⟨this.1, Nat.lt_succ_of_lt this.2⟩
    ·exact ⟨I.W.next, Nat.lt_succ_self _⟩
   ·rintro x (hx | rfl)
    ·obtain ⟨i, hi, hn, hc, hx⟩:=I.own x hx
     exact ⟨i, List.mem_cons_of_mem _ hi, hn, hc, by rw [if_neg (hne i hi)]; exact hx⟩
    ·exact ⟨j, List.mem_cons_self, hnl, by rw [hcj]; exact h3, if_pos rfl⟩
   ·intro i k x hi hk hni hnk hci hck hxi hxk
    cases hi with
    | head=>cases hk with
     | head=>rfl
     | tail _ hk=>
      exfalso
      rw [if_pos rfl] at hxi
      rw [if_neg (hne k hk)] at hxk
      cases hxi
      have:=(I.lt _ (idold k hk hnk hck _ hxk)).2
      omega
    | tail _ hi=>cases hk with
     | head=>
      exfalso
      rw [if_pos rfl] at hxk
      rw [if_neg (hne i hi)] at hxi
      cases hxk
      have:=(I.lt _ (idold i hi hni hci _ hxi)).2
      omega
     | tail _ hk=>
      rw [if_neg (hne i hi)] at hxi
      rw [if_neg (hne k hk)] at hxk
      exact I.inj i k x hi hk hni hnk hci hck hxi hxk
   ·intro t ht
    rw [jo (ht j List.mem_cons_self hnl o ho)]
    refine (I.fr t fun i hi=>ht i (List.mem_cons_of_mem _ hi)).mono (fun _ _=>rfl) fun i hi=>⟨Nat.lt_succ_of_lt hi.1, fun e=>?_⟩
    rcases e with e | e
    ·exact hi.2 e
    ·have:=hi.1; omega
   ·intro i hi hn oi hoi
    cases hi with
    | head=>
     rw [ho] at hoi
     cases hoi
     refine ⟨fun hc=>absurd h3 hc, fun _=>.inl ⟨h.next, if_pos rfl, ?_, .inr rfl, cs, m, by rw [yr, if_pos rfl], hfl, fun d hd=>by rw [hd]; exact zgl, fun β cl K' E' g=>?_⟩⟩
     ·rw [← jf o (hself _)]; exact hw
     ·rw [← jw o (hself _)]; exact hall β cl K' E' g
    | tail _ hi=>
     obtain ⟨h1, h2⟩:=hap i hi hn oi hoi
     have hl:∀ t ∈ oi.looksAt ops, ρ t = (ρ.put o.dst (mvV m h.next)) t:=fun t ht=>(jo (h1 t ht)).symm
     have hd:∀ d, oi.dst = some d->ρ d = (ρ.put o.dst (mvV m h.next)) d:=fun d hd=>(jo (h2 d hd)).symm
     refine ⟨fun hc=>?_, fun hc=>?_⟩
     ·have hc2:cls T oi ≠ 2:=fun hc2=>hn (I.hp i hi (by rw [zab hoi]; exact hc2))
      exact (((I.pend i hi hn oi hoi).1 hc).push _ I.R.dom hc2 hc).looks hl hd
     ·show zip T ops oi _ _ _ (if i = j then some h.next else idf i)
      rw [if_neg (hne i hi)]
      exact ((I.pend i hi hn oi hoi).2 hc).looks hl hd (fun _ _ h=>.inl h) (fun x _ hx=>by rw [yr, if_neg (by have:=(I.lt x hx).2; omega)])
  ·have hcls:zba T o.op = true ∨ ∃ t x, o.op = .load t x:=by
    cases hp:zba T o.op with
    | true=>exact .inl rfl
    | false=>
     exact .inr (cls_is1 (zfs hj h3 hp))
   have hcst:∃ v, ya T call ops pl (ρ.put o.dst v) K E h = some out ∧ ∀ (β:Type) (c:Call β) (K' E':V->M β), zf T c ρ o K' E' h = K' v h:=by
    rcases hcls with hp | ⟨t, x, hp⟩
    ·obtain ⟨v, h1, h2⟩:=zdd hp e
     exact ⟨v, h1, fun β c K' E'=>h2 β c K' E' h⟩
    ·obtain ⟨v, _, _, _, _, _, _, _, h1, h2⟩:=zes hp e
     exact ⟨v, h1, h2⟩
   obtain ⟨v, e1, hc⟩:=hcst
   refine ⟨Y, idf, h, _, same idf v (fun _ _=>rfl) (fun h=>absurd h h3) e1 ⟨fun _=>.inl ⟨by rw [← jf o (hself v)]; exact hw, v, fun d hd=>by rw [hd]; exact zgl, ?_⟩, fun h=>absurd h h3⟩⟩
   rw [← jw o (hself v)]
   exact hc _ _ _ _
 ·refine ⟨Y, fun i=>if i = j then none else idf i, h, _, same _ _ (fun i hi=>if_neg (hne i hi)) (fun _=>if_pos rfl) e ⟨fun _=>.inr ⟨by rw [← jf o (hself _)]; exact hw, fun d hd=>by rw [hd]; exact zgl⟩, fun _=>.inr ⟨if_pos rfl, by rw [← jf o (hself _)]; exact hw, fun d hd=>by rw [hd]; exact zgl⟩⟩⟩
theorem Inv.reach (hT:TmpsOk T N ops) {i:Nat} {oi:Oper} (hi:ops[i]? = some oi) (hn:¬ isL listed i) (hpre:∀ e ∈ oi.after, Region.binds .any e = true->isL listed e.on) :
  ∀ (pl:List Do) (done:List Nat) (ρ:zb) (h:H) (Y:Nat->Prop) (idf:Nat->Option Nat), Inv P T base w0 Y idf call out N dfs ι₀ h₀ w₁ ops K E listed ι h w a pl done ρ->i ∉ done ->
   ∃ pl' done' ρ' h' Y' idf', Inv P T base w0 Y' idf' call out N dfs ι₀ h₀ w₁ ops K E listed ι h' w a pl' done' ρ' ∧ (i ∈ done' ∨ (i ∉ done' ∧ yb T ops i = 2 ∧ ∃ pl'', pl' = .op i :: pl''))
 | [], done, ρ, h, Y, idf, I, hd=>by
  have:=I.chk
  simp only [zbk, List.all_eq_true] at this
  exact absurd (by simpa using this i (List.mem_range.2 (jm hi))) hd
 | .look j :: pl, done, ρ, h, Y, idf, I, hd=>
  Inv.reach hT hi hn hpre pl done ρ h Y idf { I with ev:=(zdv I.ev).2, chk:=I.chk } hd
 | .expect t fs :: pl, done, ρ, h, Y, idf, I, hd=>
  Inv.reach hT hi hn hpre pl done ρ h Y idf { I with ev:=zck I.ev, chk:=I.chk } hd
 | .op j :: pl, done, ρ, h, Y, idf, I, hd=>by
  by_cases hc:yb T ops j = 2
  ·by_cases hji:j = i
   ·subst hji; exact ⟨_, done, ρ, h, Y, idf, I, .inr ⟨hd, hc, pl, rfl⟩⟩
   ·exfalso
    obtain ⟨o, ho, hnd, _, _, _, hchk⟩:=zbr I.chk
    have hb:=zbo (jm hi) hc pl (j :: done) hchk (by simp; exact ⟨fun e=>hji e.symm, hd⟩) List.mem_cons_self
    exact hnd (I.sub j (zac (S:=isL listed) I.clL hi hpre (zbu hb)))
  ·obtain ⟨Y', idf', h', ρ', I'⟩:=I.adv hT hc
   by_cases hji:j = i
   ·subst hji; exact ⟨pl, _, ρ', h', Y', idf', I', .inl List.mem_cons_self⟩
   ·exact Inv.reach hT hi hn hpre pl (j :: done) ρ' h' Y' idf' I' (by simp; exact ⟨fun e=>hji e.symm, hd⟩)
theorem zi {listed:Array Bool} {i j:Nat} (hi:i < listed.size):isL (listed.setIfInBounds i true) j ↔ j = i ∨ isL listed j:=by
 unfold isL
 simp only [Array.getD_eq_getD_getElem?, Array.getElem?_setIfInBounds]
 by_cases h:i = j
 ·subst h; simp [hi]
 ·have:¬ j = i:=fun e=>h e.symm
  simp [h, this]
theorem wanted_eq {o:Oper} {a:Act} {ι:Io} {ok:Nat->Prop} (hF:∀ j want t, o.guard = some (j, want)->zcw ops j = some t->VR ι ok (ρ t) (a.tmps.getD t undef)) {b:Bool} (hw:zap ops o ρ = some b) :
  Region.wanted o (yielded ops a.tmps) = b:=by
 unfold zap at hw
 cases hg:o.guard with
 | none=>rw [hg] at hw; cases hw; simp [Region.wanted, hg]
 | some gw=>
  obtain ⟨j, want⟩:=gw
  rw [hg] at hw
  dsimp only at hw
  cases ht:zcw ops j with
  | none=>rw [ht] at hw; cases hw
  | some t=>
   rw [ht] at hw
   dsimp only at hw
   have hFt:=hF j want t hg ht
   generalize ρ t = u at hw hFt
   cases u with
   | bool g=>
    cases hw
    have hy:=ziq (ops:=ops) ht g hFt
    simp only [Region.wanted, hg, hy]
    cases g <;> cases want <;> rfl
   | tuple vs=>
    cases vs with
    | cons _ _=>cases hw
    | nil=>
     cases hw
     obtain ⟨arr, harr, hv⟩:=hFt
     have:arr = #[]:=Array.eq_empty_of_size_eq_zero (by simpa using hv.length.symm)
     subst this
     simp [Region.wanted, hg, zhe (ops:=ops) ht harr]
   | _=>cases hw
def seen (ops:Array Oper) (o:Oper) (ρ:zb):zb:=fun t=>cond ((o.looksAt ops).contains t) (ρ t) .undef
theorem zfa {o:Oper} {t:Nat} (h:t ∈ o.looksAt ops):seen ops o ρ t = ρ t:=by
 unfold seen
 rw [show (o.looksAt ops).contains t = true by simpa using h]; rfl
theorem zfu {o:Oper} {ι:Io} {ok:Nat->Prop} {a:Act} (h:∀ t ∈ o.looksAt ops, VR ι ok (ρ t) (a.tmps.getD t undef)):FR ι ok (seen ops o ρ) a:=by
 intro t
 by_cases ht:t ∈ o.looksAt ops
 ·rw [zfa ht]; exact h t ht
 ·unfold seen
  rw [show (o.looksAt ops).contains t = false by simpa using ht]; trivial
end
section
variable {α:Type} {P:Program} {T:Tab} {base:Nat} {w0:World} {X Y:Nat->Prop} {idf:Nat->Option Nat} {call:Call α} {out:α} {N:Lot} {dfs:List Deferred} {ι₀:Io} {h₀:H} {w₁:World}
 {ops:Array Oper} {K:zb->M α} {E:V->M α} {listed:Array Bool} {ι:Io} {h:H} {w:World} {a:Act} {pl:List Do} {done:List Nat} {ρ:zb}
 {next:Act->World->Prop} {Q:Exit->Act->World->Prop}
theorem Inv.looked (hT:TmpsOk T N ops) (I:Inv P T base w0 Y idf call out N dfs ι₀ h₀ w₁ ops K E listed ι h w a pl done ρ) {i:Nat} {o:Oper} (ho:ops[i]? = some o) (hni:¬ isL listed i) (hpre:∀ e ∈ o.after, Region.binds .any e = true->isL listed e.on) :
  ∀ t ∈ o.looksAt ops, VR ι (okOf h Y) (ρ t) (a.tmps.getD t undef):=fun t ht=>
 I.fr t fun j hj hnj oj hoj hd=>by
  rcases hT.look j i oj o t hoj ho hd ht with hb | ⟨x, hx2, hx3, hx4⟩
  ·exact hnj (zac (S:=isL listed) I.clL ho hpre hb)
  ·have hxd:x ∈ done:=by
    rcases hx4 with rfl | hx4
    ·exact hj
    ·exact zbp (S:=fun i=>i ∈ done) I.clD hx4 hj
   exact hni (zbp (S:=isL listed) I.clL hx3 (I.hp x hxd hx2))
theorem Inv.word (hT:TmpsOk T N ops) (I:Inv P T base w0 Y idf call out N dfs ι₀ h₀ w₁ ops K E listed ι h w a pl done ρ) {i:Nat} {o:Oper} (ho:ops[i]? = some o) (hni:¬ isL listed i) (hpre:∀ e ∈ o.after, Region.binds .any e = true->isL listed e.on) {b:Bool} (hw:zap ops o ρ = some b) :
  Region.wanted o (yielded ops a.tmps) = b:=
 wanted_eq (fun j want t hg ht=>I.looked hT ho hni hpre t (zhd hg ht)) hw
theorem zlt {ι':Io} {h':H} {dst:Option Nat} {v:V} {x:Value} {ρ':zb} (hd:∀ d, dst = some d->d < a.tmps.size) (hsame:∀ t, dst ≠ some t->ρ' t = ρ t) (hat:∀ d, dst = some d->ρ' d = v)
  (hv:VR ι' (okOf h' X) v x) {t:Nat} (hold:dst ≠ some t->VR ι' (okOf h' X) (ρ t) (a.tmps.getD t undef)):VR ι' (okOf h' X) (ρ' t) ((a.put dst x).tmps.getD t undef):=by
 cases dst with
 | none=>rw [hsame t (by simp)]; exact hold (by simp)
 | some d=>
  rw [zmx (hd d rfl)]
  by_cases e:t = d
  ·subst e; rw [if_pos rfl, hat t rfl]; exact hv
  ·rw [if_neg e, hsame t (fun h=>e (by cases h; rfl))]
   exact hold fun h=>e (by cases h; rfl)
theorem op_wpX (hTab:TabOk P T) {o:Oper} {ρ2:zb} {v:V} {h2:H} (R:HR T base w0 Y ι h w) (hY:∀ i, Y i->i < h.next) (hρ:∀ x, VR ι (okOf h Y) (Go.Ab.ev T ρ2 x) (a.eval x)) (e:zf T zdt ρ2 o K0 E0 h = some (v, h2))
  (hn:∀ ι' x w', HR T base w0 Y ι' h2 w'->Went Y ι h w ι' h2 w'->VR ι' (okOf h2 Y) v x->next (a.put o.dst x) w'):o.wp P a w next Q:=by
 unfold Oper.wp
 rcases zgs (P:=P) hTab R hY hρ e with ⟨v', h', ι', x, w', e1, hr, R', W', hv⟩ | ⟨v', x, e1, hr, hv⟩ | ⟨g, args, xs, hr, hv, e1⟩
 ·cases e1
  rcases hr with hr | ⟨rfl, hr⟩
  ·rw [hr]; exact hn ι' x w' R' W' hv
  ·rw [hr]; exact hn ι' undef w' R' W' hv
 ·cases e1
 ·cases e1
theorem Inv.step_pending (hTab:TabOk P T) (hT:TmpsOk T N ops) (hsz:listed.size = ops.size) (I:Inv P T base w0 Y idf call out N dfs ι₀ h₀ w₁ ops K E listed ι h w a pl done ρ) {i:Nat} {o:Oper} (ho:ops[i]? = some o) (hn:¬ isL listed i)
  (hpre:∀ e ∈ o.after, Region.binds .any e = true->isL listed e.on) (hi:i ∈ done) (hnext:∀ Y' ι' a' w', Inv P T base w0 Y' idf call out N dfs ι₀ h₀ w₁ ops K E (listed.setIfInBounds i true) ι' h w' a' pl done ρ->next a' w') :
  if Region.wanted o (yielded ops a.tmps) then o.wp P a w next Q else next (a.put o.dst undef) w:=by
 have hil:i < listed.size:=by rw [hsz]; exact jm ho
 have hlook:=I.looked hT ho hn hpre
 have hdsz:∀ d, o.dst = some d->d < a.tmps.size:=fun d hd=>by rw [I.sz]; exact (hT.fit i o d ho hd).1
 have hci:=zab (T:=T) ho
 have fin:∀ {Y':Nat->Prop} {ι':Io} {w':World} {v:V} {x:Value}, HR T base w0 Y' ι' h w'->WentX Y' ι₀ h₀ w₁ ι' h w'->(∀ x, Y' x->Y x)->(∀ j ∈ done, j ≠ i->¬ isL listed j->yb T ops j = 3->∀ x, idf j = some x->Y x->Y' x) ->
   (∀ x, Y' x->idf i ≠ some x)->(∀ k, okOf h Y k->ι' k = ι k)->VR ι' (okOf h Y') v x->(∀ d, o.dst = some d->ρ d = v)->next (a.put o.dst x) w':=by
  intro Y' ι' w' v x R' W' hsub hkeep hself hio hv hd
  have hok:∀ k, okOf h Y k->okOf h Y' k:=fun k hk=>⟨hk.1, fun e=>hk.2 (hsub k e)⟩
  refine hnext Y' ι' _ w' ⟨I.ev, I.chk, R', W', by rw [zez]; exact I.sz, fun p hp=>by rw [zcj (fun e=>(hT.fit i o _ ho e).2 p hp rfl)]; exact I.kp p hp, by rw [zln]; exact I.df, fun x hx=>I.lt x (hsub x hx), fun x hx=>?_, fun j k x hj hk hnj hnk hcj hck hxj hxk=>?_,
   fun j hj=>?_, fun j hj hc=>(zi hil).2 (.inr (I.hp j hj hc)), I.clD, fun j hj oj hoj e he hb=>?_, fun t ht=>?_, fun j hj hnj oj hoj=>?_⟩
  ·obtain ⟨j, hj, hnj, hcj, hxj⟩:=I.own x (hsub x hx)
   refine ⟨j, hj, fun hl=>?_, hcj, hxj⟩
   rcases (zi hil).1 hl with e | hl
   ·subst e; exact hself x hx hxj
   ·exact hnj hl
  ·exact I.inj j k x hj hk (fun hl=>hnj ((zi hil).2 (.inr hl))) (fun hl=>hnk ((zi hil).2 (.inr hl))) hcj hck hxj hxk
  ·rcases (zi hil).1 hj with rfl | hj
   ·exact hi
   ·exact I.sub j hj
  ·rcases (zi hil).1 hj with rfl | hj
   ·rw [ho] at hoj; cases hoj; exact (zi hil).2 (.inr (hpre e he hb))
   ·exact (zi hil).2 (.inr (I.clL j hj oj hoj e he hb))
  ·refine zlt hdsz (fun _ _=>rfl) hd hv fun hne=>(I.fr t fun j hj hnj oj hoj=>?_).mono hio hok
   by_cases hji:j = i
   ·subst hji; rw [ho] at hoj; cases hoj; exact hne
   ·exact ht j hj (fun hl=>((zi hil).1 hl).elim hji hnj) oj hoj
  ·have hnj':¬ isL listed j:=fun hl=>hnj ((zi hil).2 (.inr hl))
   have hji:j ≠ i:=fun e=>hnj ((zi hil).2 (.inl e))
   refine ⟨(I.pend j hj hnj' oj hoj).1, fun hc=>((I.pend j hj hnj' oj hoj).2 hc).looks (fun _ _=>rfl) (fun _ _=>rfl) (fun x hx hy=>hkeep j hj hji hnj' (by rw [zab hoj]; exact hc) x hx hy) (fun _ _ _=>rfl)⟩
 by_cases h3:cls T o = 3
 ·rcases (I.pend i hi hn o ho).2 h3 with ⟨id, h0, hw, hy, cs, m, hg, hfl, hd, hall⟩ | ⟨h0, hw, hd⟩
  ·-- it is made now
   rw [if_pos (I.word hT ho hn hpre hw)]
   have hs':zf T zdt (seen ops o ρ) o K0 E0 h = some (mvV m h.next, h.push (.cells cs true)):=by
    rw [← jw (ops:=ops) (ρ:=ρ) o (fun t ht=>(zfa ht).symm), hall]; rfl
   have hids:=made_ids (ι:=ι) (X:=Y) hTab h3 (fun x=>zjb I.R (zfu hlook) x) hs'
   refine op_wpX hTab I.R (fun x hx=>(I.lt x hx).2) (fun x=>zjb I.R (zfu hlook) x) hs' fun ι' x w' R' W' hv=>?_
   have R'':=I.R.claim (id:=id) hy (fun x hx=>(I.lt x hx).2) hg hids R' W'.ext
   have W'':=I.W.claim (id:=id) hy (fun x hx=>(I.lt x hx).2) (I.lt id hy).1 hg I.R.dom W'
   refine fin (v:=mvV m id) R'' W'' (fun x hx=>hx.1) (fun j hj hji hnj hcj x hx hyx=>⟨hyx, fun e=>hji ?_⟩) (fun x hx e=>?_) (fun k hk=>?_) ?_ hd
   ·subst e; exact I.inj j i x hj hi hnj hn hcj (by rw [hci]; exact h3) hx h0
   ·rw [h0] at e; cases e; exact hx.2 rfl
   ·show (if k = id then ι' h.next else ι' k) = ι k
    rw [if_neg (fun (e:k = id)=>hk.2 (by rw [e]; exact hy))]
    exact W'.ext k hk.1
   ·have hidok:id < h.next ∧ ¬ (Y id ∧ id ≠ id):=⟨(I.lt id hy).2, fun e=>e.2 rfl⟩
    cases m with
    | none=>
     refine ⟨hidok, ?_⟩
     rw [hv.2]
     simp [Ad.to]
    | some lc=>
     obtain ⟨l, c⟩:=lc
     obtain ⟨_, b, c', hx, hb, hl, hc⟩:=hv
     refine ⟨hidok, b, c', hx, ?_, hl, hc⟩
     rcases hb with hb | hb
     ·exact .inl hb
     ·refine .inr ?_
      rw [hb]
      show Ad.to ι' ⟨h.next, 0⟩ = Ad.to _ ⟨id, 0⟩
      simp [Ad.to]
  ·rw [if_neg (by rw [I.word hT ho hn hpre hw]; simp)]
   exact fin (v:=.tuple []) I.R I.W (fun x hx=>hx) (fun j _ _ _ _ x _ hy=>hy) (fun x _ e=>by rw [h0] at e; cases e) (fun _ _=>rfl) ⟨#[], rfl, trivial⟩ hd
 ·have hidi:∀ x, Y x->∀ (_:idf i = some x), ∃ k ∈ done, ¬ isL listed k ∧ yb T ops k = 3 ∧ idf k = some x:=fun x hx _=>I.own x hx
  -- numbers are told of for slices alone
  have fin':∀ {ι':Io} {w':World} {v:V} {x:Value}, HR T base w0 Y ι' h w'->Went Y ι h w ι' h w'->VR ι' (okOf h Y) v x->(∀ d, o.dst = some d->ρ d = v)->next (a.put o.dst x) w':=by
   intro ι' w' v x R' W' hv hd
   have hok:∀ k, okOf h Y k->okOf h Y k:=fun k hk=>hk
   refine hnext Y ι' _ w' ⟨I.ev, I.chk, R', I.W.trans W', by rw [zez]; exact I.sz, fun p hp=>by rw [zcj (fun e=>(hT.fit i o _ ho e).2 p hp rfl)]; exact I.kp p hp, by rw [zln]; exact I.df, I.lt, fun x hx=>?_, fun j k x hj hk hnj hnk hcj hck hxj hxk=>?_,
    fun j hj=>?_, fun j hj hc=>(zi hil).2 (.inr (I.hp j hj hc)), I.clD, fun j hj oj hoj e he hb=>?_, fun t ht=>?_, fun j hj hnj oj hoj=>?_⟩
   ·obtain ⟨j, hj, hnj, hcj, hxj⟩:=I.own x hx
    refine ⟨j, hj, fun hl=>?_, hcj, hxj⟩
    rcases (zi hil).1 hl with e | hl
    ·subst e; rw [hci] at hcj; exact h3 hcj
    ·exact hnj hl
   ·exact I.inj j k x hj hk (fun hl=>hnj ((zi hil).2 (.inr hl))) (fun hl=>hnk ((zi hil).2 (.inr hl))) hcj hck hxj hxk
   ·rcases (zi hil).1 hj with rfl | hj
    ·exact hi
    ·exact I.sub j hj
   ·rcases (zi hil).1 hj with rfl | hj
    ·rw [ho] at hoj; cases hoj; exact (zi hil).2 (.inr (hpre e he hb))
    ·exact (zi hil).2 (.inr (I.clL j hj oj hoj e he hb))
   ·refine zlt hdsz (fun _ _=>rfl) hd hv fun hne=>(I.fr t fun j hj hnj oj hoj=>?_).mono (fun k hk=>W'.ext k hk.1) hok
    by_cases hji:j = i
    ·subst hji; rw [ho] at hoj; cases hoj; exact hne
    ·exact ht j hj (fun hl=>((zi hil).1 hl).elim hji hnj) oj hoj
   ·exact I.pend j hj (fun hl=>hnj ((zi hil).2 (.inr hl))) oj hoj
  rcases (I.pend i hi hn o ho).1 h3 with ⟨hw, v, hd, hs⟩ | ⟨hw, hd⟩
  ·rw [if_pos (I.word hT ho hn hpre hw)]
   have hs':zf T zdt (seen ops o ρ) o K0 E0 h = some (v, h):=by rw [← hs, jw (ops:=ops) o (fun t ht=>zfa ht)]
   refine op_wpX hTab I.R (fun x hx=>(I.lt x hx).2) (fun x=>zjb I.R (zfu hlook) x) hs' fun ι' x w' R' W' hv=>fin' R' W' hv hd
  ·rw [if_neg (by rw [I.word hT ho hn hpre hw]; simp)]
   exact fin' (v:=.tuple []) I.R (Went.refl Y ι h w) ⟨#[], rfl, trivial⟩ hd
theorem Inv.one_cell (I:Inv P T base w0 Y idf call out N dfs ι₀ h₀ w₁ ops K E listed ι h w a pl done ρ) {q:Ad} {v:V} (hx:h.cell q = some v):oneV v = true:=by
 by_cases hy:Y q.id
 ·obtain ⟨j, hj, hnj, hcj, hid⟩:=I.own _ hy
  obtain ⟨oj, hoj⟩:=zev hcj
  rcases (I.pend j hj hnj oj hoj).2 (by rw [← zab hoj]; exact hcj) with ⟨x, h0, _, _, cs, m, hg, hf, _⟩ | ⟨h0, _⟩
  ·rw [hid] at h0
   cases h0
   unfold H.cell at hx
   rw [hg] at hx
   exact (List.all_eq_true.1 hf) v (List.mem_of_getElem? hx)
  ·rw [hid] at h0; cases h0
 ·exact (I.R.cell hy hx).choose_spec.2.2
theorem op_wpA (hT:TabOk P T) {o:Oper} (hA:zhx o = true) {next:Act->World->Prop} {Q:Exit->Act->World->Prop} {KK:V->M α} (R:HR T base w0 Y ι h w) (hX:∀ i, Y i->i < h.next)
  (hρ:∀ x, VR ι (okOf h Y) (Go.Ab.ev T ρ x) (a.eval x)) (e:zf T call ρ o KK E h = some out)
  (hn:∀ v h' ι' x w', KK v h' = some out->HR T base w0 Y ι' h' w'->Went Y ι h w ι' h' w'->VR ι' (okOf h' Y) v x->next (a.put o.dst x) w'):o.wp P a w next Q:=by
 have e':zf T (zdt:Call α) ρ o KK (fun _ _=>none) h = some out:=by
  rw [← e]
  unfold zhx at hA
  cases ho:o.op <;> rw [ho] at hA <;> first | (cases hA; done) | (simp only [zf, ho]; done) | skip
  case call c=>
   obtain ⟨callee, args, ats⟩:=c
   cases callee <;> first | (cases hA; done) | (simp only [zf, ho]; done)
 unfold Oper.wp
 rcases zgs (P:=P) hT R hX hρ e' with ⟨v, h', ι', x, w', e1, hr, R', W', hv⟩ | ⟨v, x, e1, hr, hv⟩ | ⟨g, args, xs, hr, hv, e1⟩
 ·rcases hr with hr | ⟨rfl, hr⟩
  ·rw [hr]; exact hn v h' ι' x w' e1 R' W' hv
  ·rw [hr]; exact hn v h' ι' undef w' e1 R' W' hv
 ·cases e1
 ·cases e1
theorem Inv.step_app (hTab:TabOk P T) (hT:TmpsOk T N ops) (hsz:listed.size = ops.size) {i:Nat} (I:Inv P T base w0 Y idf call out N dfs ι₀ h₀ w₁ ops K E listed ι h w a (.op i :: pl) done ρ) {o:Oper} (ho:ops[i]? = some o) (hn:¬ isL listed i)
  (hpre:∀ e ∈ o.after, Region.binds .any e = true->isL listed e.on) (hcl:yb T ops i = 2) (hA:zhx o = true) (hnext:∀ h' ι' a' w' ρ', Inv P T base w0 Y idf call out N dfs ι₀ h₀ w₁ ops K E (listed.setIfInBounds i true) ι' h' w' a' pl (i :: done) ρ'->next a' w') :
  if Region.wanted o (yielded ops a.tmps) then o.wp P a w next Q else next (a.put o.dst undef) w:=by
 have hil:i < listed.size:=by rw [hsz]; exact jm ho
 have hlook:=I.looked hT ho hn hpre
 have hdsz:∀ d, o.dst = some d->d < a.tmps.size:=fun d hd=>by rw [I.sz]; exact (hT.fit i o d ho hd).1
 obtain ⟨o', ho', hnd, hpre', _, hlk, hchk⟩:=zbr I.chk
 rw [ho] at ho'
 cases ho'
 obtain ⟨o', ho', hev⟩:=zgm I.ev
 rw [ho] at ho'
 cases ho'
 have hcls:cls T o = 2:=by unfold yb at hcl; rw [ho] at hcl; exact hcl
 have hap:∀ j ∈ done, ¬ isL listed j->∀ oj, ops[j]? = some oj->(∀ t ∈ oj.looksAt ops, o.dst ≠ some t) ∧ ∀ d, oj.dst = some d->o.dst ≠ some d:=by
  intro j hj hnj oj hoj
  refine ⟨fun t ht hd=>hnd ?_, fun d hd hd'=>hnd ?_⟩
  ·rcases hT.look i j o oj t ho hoj hd ht with hb | ⟨x, hx2, hx3, hx4⟩
   ·exact zbp (S:=fun i=>i ∈ done) I.clD hb hj
   ·exfalso
    rcases hx4 with rfl | hx4
    ·exact hnj (zac (S:=isL listed) I.clL ho hpre hx3)
    ·have hxd:x ∈ done:=zac (S:=fun i=>i ∈ done) I.clD ho hpre' hx4
     exact hnj (zbp (S:=isL listed) I.clL hx3 (I.hp x hxd hx2))
  ·have:=hT.one j i oj o d hoj ho hd hd'
   subst this; exact hj
 have idold:∀ x, Y x->x < h.next:=fun x hx=>(I.lt x hx).2
 have fin:∀ {h':H} {ι':Io} {w':World} {v:V} {x:Value}, ya T call ops pl (ρ.put o.dst v) K E h' = some out->HR T base w0 Y ι' h' w'->Went Y ι h w ι' h' w' ->
   VR ι' (okOf h' Y) v x->(∀ j ∈ done, ¬ isL listed j->∀ oj, ops[j]? = some oj->(cls T oj ≠ 3->Pend T ops oj (ρ.put o.dst v) h') ∧ (cls T oj = 3->zip T ops oj (ρ.put o.dst v) h' Y (idf j)))->next (a.put o.dst x) w':=by
  intro h' ι' w' v x e R' W' hv hpd
  refine hnext h' ι' _ w' _ ⟨e, hchk, R', I.W.trans W', by rw [zez]; exact I.sz, fun p hp=>by rw [zcj (fun e=>(hT.fit i o _ ho e).2 p hp rfl)]; exact I.kp p hp, by rw [zln]; exact I.df,
   fun x hx=>⟨(I.lt x hx).1, Nat.lt_of_lt_of_le (I.lt x hx).2 W'.next⟩, fun x hx=>?_, fun j k x hj hk hnj hnk hcj hck hxj hxk=>?_, fun j hj=>?_, fun j hj hc=>?_, fun j hj oj hoj e he hb=>?_, fun j hj oj hoj e he hb=>?_, fun t ht=>?_, fun j hj hnj oj hoj=>?_⟩
  ·obtain ⟨j, hj, hnj, hcj, hx⟩:=I.own x hx
   refine ⟨j, List.mem_cons_of_mem _ hj, fun hl=>?_, hcj, hx⟩
   rcases (zi hil).1 hl with rfl | hl
   ·exact hnd hj
   ·exact hnj hl
  ·cases hj with
   | head=>rw [hcl] at hcj; cases hcj
   | tail _ hj=>cases hk with
    | head=>rw [hcl] at hck; cases hck
    | tail _ hk=>exact I.inj j k x hj hk (fun hl=>hnj ((zi hil).2 (.inr hl))) (fun hl=>hnk ((zi hil).2 (.inr hl))) hcj hck hxj hxk
  ·rcases (zi hil).1 hj with rfl | hj
   ·exact List.mem_cons_self
   ·exact List.mem_cons_of_mem _ (I.sub j hj)
  ·cases hj with
   | head=>exact (zi hil).2 (.inl rfl)
   | tail _ hj=>exact (zi hil).2 (.inr (I.hp j hj hc))
  ·cases hj with
   | head=>rw [ho] at hoj; cases hoj; exact List.mem_cons_of_mem _ (hpre' e he hb)
   | tail _ hj=>exact List.mem_cons_of_mem _ (I.clD j hj oj hoj e he hb)
  ·rcases (zi hil).1 hj with rfl | hj
   ·rw [ho] at hoj; cases hoj; exact (zi hil).2 (.inr (hpre e he hb))
   ·exact (zi hil).2 (.inr (I.clL j hj oj hoj e he hb))
  ·refine zlt hdsz (fun t h=>jo h) (fun d hd=>by rw [hd]; exact zgl) hv fun hne=>(I.fr t fun j hj hnj oj hoj=>?_).mono W'.io W'.ok
   have hji:j ≠ i:=fun e=>hnd (e ▸ hj)
   exact ht j (List.mem_cons_of_mem _ hj) (fun hl=>((zi hil).1 hl).elim hji hnj) oj hoj
  ·cases hj with
   | head=>exact absurd ((zi hil).2 (.inl rfl)) hnj
   | tail _ hj=>exact hpd j hj (fun hl=>hnj ((zi hil).2 (.inr hl))) oj hoj
 rcases hev with ⟨hw, e⟩ | ⟨hw, e⟩
 ·rw [if_pos (I.word hT ho hn hpre hw)]
  rw [jw (ops:=ops) (ρ2:=seen ops o ρ) o (fun t ht=>(zfa ht).symm)] at e
  refine op_wpA hTab hA I.R idold (fun x=>zjb I.R (zfu hlook) x) e (fun v h' ι' x w' e' R' W' hv=>fin e' R' W' hv fun j hj hnj oj hoj=>?_)
  obtain ⟨ha1, ha2⟩:=hap j hj hnj oj hoj
  have hl:∀ t ∈ oj.looksAt ops, ρ t = (ρ.put o.dst v) t:=fun t ht=>(jo (ha1 t ht)).symm
  have hdd:∀ d, oj.dst = some d->ρ d = (ρ.put o.dst v) d:=fun d hd=>(jo (ha2 d hd)).symm
  refine ⟨fun hc3=>?_, fun hc3=>((I.pend j hj hnj oj hoj).2 hc3).looks hl hdd (fun _ _ h=>h) (fun x _ hy=>W'.out x hy)⟩
  rcases (I.pend j hj hnj oj hoj).1 hc3 with ⟨hwj, vj, hdj, hsj⟩ | ⟨hwj, hdj⟩
  ·refine .inl ⟨by rw [← jf oj hl]; exact hwj, vj, fun d hd=>by rw [← hdd d hd]; exact hdj d hd, ?_⟩
   rw [← jw oj hl]
   have hcj:yb T ops j ≠ 2:=fun hc=>hnj (I.hp j hj hc)
   cases hpj:zba T oj.op with
   | true=>
    obtain ⟨v', h1, h2⟩:=zdd hpj hsj
    cases h1
    exact h2 _ _ _ _ _
   | false=>
    have hc1:yb T ops j = 1:=by
     rw [zab hoj] at hcj ⊢
     exact zfs hcj hc3 hpj
    have hlj:j ∈ zcp pl:=by
     rcases (hlk hcls j hj).1 hc1 with hb | hb
     ·exact absurd (zac (S:=isL listed) I.clL ho hpre (zbu hb)) hnj
     ·exact hb
    obtain ⟨oj', hoj', t, x', d, hop, hd, hf⟩:=zdb e' j hlj
    rw [hoj] at hoj'
    cases hoj'
    obtain ⟨v', p, ti, vs, hp1, hti, hld, hv', h1, h2⟩:=zes hop hsj
    cases h1
    have hρd:(ρ.put o.dst v) d = vj:=by rw [← hdd d hd]; exact hdj d hd
    -- what was read is one cell's, or an aggregate
    have hone:ti.agg = false->oneV vj = true:=by
     intro ha
     rw [ha] at hv'
     simp only [Bool.false_eq_true, if_false] at hv'
     subst hv'
     have h3:=hld _ (fun vs h=>(some vs:Option (List V)))
     have h4:∃ K':List V->M (List V), zah p 0 ti.sh K' h = some [vj] ∧ K' = fun vs _=>some vs:=⟨_, h3, rfl⟩
     obtain ⟨K', h5, hK⟩:=h4
     obtain ⟨us, hl1, hl2, hl3⟩:=zct h5
     rw [hK] at hl3
     cases hl3
     have hx:=hl2 0 (by rw [← hl1]; simp)
     simp only [List.getElem?_cons_zero] at hx
     exact I.one_cell hx
    rcases hf with hu | ⟨p2, ti2, hp2, hti2, hl2⟩
    ·exfalso
     rw [hρd] at hu
     subst hu
     cases ha:ti.agg with
     | true=>rw [ha] at hv'; simp at hv'
     | false=>have:=hone ha; simp [oneV] at this
    ·have e1:Go.Ab.ev T (ρ.put o.dst v) x' = Go.Ab.ev T ρ x':=(ziy fun t' ht=>hl t' (zcm (by rw [hop]; simp [Op.operands]; exact ht.symm))).symm
     rw [e1, hp1] at hp2
     cases hp2
     rw [hti] at hti2
     cases hti2
     simp only [zf, hop, hp1, hti]
     show zah p 0 ti.sh (fun cs=>Go.Ab.mk ti.agg cs K0) h' = _
     rw [hl2, hρd]
     cases ha:ti.agg with
     | true=>
      rw [ha] at hv'
      simp only [if_true] at hv'
      subst hv'
      rfl
     | false=>
      have h1:=hone ha
      have:vj.cells = [vj]:=by cases vj <;> first | rfl | (simp [oneV] at h1)
      rw [this]
      rfl
  ·exact .inr ⟨by rw [← jf oj hl]; exact hwj, fun d hd=>by rw [← hdd d hd]; exact hdj d hd⟩
 ·rw [if_neg (by rw [I.word hT ho hn hpre hw]; simp)]
  refine fin e I.R (Went.refl Y ι h w) ⟨#[], rfl, trivial⟩ fun j hj hnj oj hoj=>?_
  obtain ⟨ha1, ha2⟩:=hap j hj hnj oj hoj
  have hl:∀ t ∈ oj.looksAt ops, ρ t = (ρ.put o.dst (.tuple [])) t:=fun t ht=>(jo (ha1 t ht)).symm
  have hdd:∀ d, oj.dst = some d->ρ d = (ρ.put o.dst (.tuple [])) d:=fun d hd=>(jo (ha2 d hd)).symm
  exact ⟨fun hc=>((I.pend j hj hnj oj hoj).1 hc).looks hl hdd, fun hc=>((I.pend j hj hnj oj hoj).2 hc).looks hl hdd (fun _ _ h=>h) (fun _ _ _=>rfl)⟩
theorem Inv.step_heap (hX0:∀ i, ¬ X i) (hTab:TabOk P T) (hC:zr P T base w0 call) (hT:TmpsOk T N ops) (hsz:listed.size = ops.size) {i:Nat} (I:Inv P T base w0 Y idf call out N dfs ι₀ h₀ w₁ ops K E listed ι h w a (.op i :: pl) done ρ) {o:Oper} (ho:ops[i]? = some o) (hn:¬ isL listed i)
  (hpre:∀ e ∈ o.after, Region.binds .any e = true->isL listed e.on) (hcl:yb T ops i = 2) (hnA:zhx o = false) (hnext:∀ h' ι' a' w' ρ', Inv P T base w0 X idf call out N dfs ι₀ h₀ w₁ ops K E (listed.setIfInBounds i true) ι' h' w' a' pl (i :: done) ρ'->next a' w')
  (hp:∀ v h' ι' x a' w', E v h' = some out->St T base w0 X N dfs ι₀ h₀ w₁ ι' h' w' a'->VR ι' (okOf h' X) v x->Q (.panic [{ v:=x, recovered:=false }]) a' w') :
  if Region.wanted o (yielded ops a.tmps) then o.wp P a w next Q else next (a.put o.dst undef) w:=by
 have hil:i < listed.size:=by rw [hsz]; exact jm ho
 have hlook:=I.looked hT ho hn hpre
 have hdsz:∀ d, o.dst = some d->d < a.tmps.size:=fun d hd=>by rw [I.sz]; exact (hT.fit i o d ho hd).1
 obtain ⟨o', ho', hnd, hpre', _, hlk, hchk⟩:=zbr I.chk
 rw [ho] at ho'
 cases ho'
 obtain ⟨o', ho', hev⟩:=zgm I.ev
 rw [ho] at ho'
 cases ho'
 have hcls:cls T o = 2:=by unfold yb at hcl; rw [ho] at hcl; exact hcl
 -- all that was told of was made
 have hno3:∀ j ∈ done, ¬ isL listed j->yb T ops j ≠ 3:=fun j hj hnj hc=>hnj (zac (S:=isL listed) I.clL ho hpre (zbu (((hlk hcls j hj).2 hc).resolve_right (by rw [hnA]; simp))))
 have hYX:Y = X:=funext fun x=>propext ⟨fun hx=>(by obtain ⟨j, hj, hnj, hcj, _⟩:=I.own x hx; exact absurd hcj (hno3 j hj hnj)), fun hx=>absurd hx (hX0 x)⟩
 obtain rfl:X = Y:=hYX.symm
 have Ist:St T base w0 X N dfs ι₀ h₀ w₁ ι h w a:=⟨I.R, I.W.to hX0 hX0, hX0, I.sz, I.kp, I.df⟩
 have hap:∀ j ∈ done, ¬ isL listed j->∀ oj, ops[j]? = some oj->(∀ t ∈ oj.looksAt ops, o.dst ≠ some t) ∧ ∀ d, oj.dst = some d->o.dst ≠ some d:=by
  intro j hj hnj oj hoj
  refine ⟨fun t ht hd=>hnd ?_, fun d hd hd'=>hnd ?_⟩
  ·rcases hT.look i j o oj t ho hoj hd ht with hb | ⟨x, hx2, hx3, hx4⟩
   ·exact zbp (S:=fun i=>i ∈ done) I.clD hb hj
   ·exfalso
    rcases hx4 with rfl | hx4
    ·exact hnj (zac (S:=isL listed) I.clL ho hpre hx3)
    ·have hxd:x ∈ done:=zac (S:=fun i=>i ∈ done) I.clD ho hpre' hx4
     exact hnj (zbp (S:=isL listed) I.clL hx3 (I.hp x hxd hx2))
  ·have:=hT.one j i oj o d hoj ho hd hd'
   subst this; exact hj
 have fin:∀ {h':H} {ι':Io} {w':World} {v:V} {x:Value}, ya T call ops pl (ρ.put o.dst v) K E h' = some out->St T base w0 X N dfs ι₀ h₀ w₁ ι' h' w' (a.put o.dst x)->Went X ι h w ι' h' w' ->
   VR ι' (okOf h' X) v x->(∀ j ∈ done, ¬ isL listed j->∀ oj, ops[j]? = some oj->Pend T ops oj (ρ.put o.dst v) h')->next (a.put o.dst x) w':=by
  intro h' ι' w' v x e S' W' hv hpd
  refine hnext h' ι' _ w' _ ⟨e, hchk, S'.R, WentX.of hX0 S'.W, S'.sz, S'.kp, S'.df, fun x hx=>absurd hx (hX0 x), fun x hx=>absurd hx (hX0 x), fun j k x hj hk hnj hnk hcj hck _ _=>?_, fun j hj=>?_, fun j hj hc=>?_, fun j hj oj hoj e he hb=>?_, fun j hj oj hoj e he hb=>?_, fun t ht=>?_, fun j hj hnj oj hoj=>?_⟩
  ·cases hj with
   | head=>rw [hcl] at hcj; cases hcj
   | tail _ hj=>exact absurd hcj (hno3 j hj (fun hl=>hnj ((zi hil).2 (.inr hl))))
  ·rcases (zi hil).1 hj with rfl | hj
   ·exact List.mem_cons_self
   ·exact List.mem_cons_of_mem _ (I.sub j hj)
  ·cases hj with
   | head=>exact (zi hil).2 (.inl rfl)
   | tail _ hj=>exact (zi hil).2 (.inr (I.hp j hj hc))
  ·cases hj with
   | head=>rw [ho] at hoj; cases hoj; exact List.mem_cons_of_mem _ (hpre' e he hb)
   | tail _ hj=>exact List.mem_cons_of_mem _ (I.clD j hj oj hoj e he hb)
  ·rcases (zi hil).1 hj with rfl | hj
   ·rw [ho] at hoj; cases hoj; exact (zi hil).2 (.inr (hpre e he hb))
   ·exact (zi hil).2 (.inr (I.clL j hj oj hoj e he hb))
  ·refine zlt hdsz (fun t h=>jo h) (fun d hd=>by rw [hd]; exact zgl) hv fun hne=>(I.fr t fun j hj hnj oj hoj=>?_).mono W'.io W'.ok
   have hji:j ≠ i:=fun e=>hnd (e ▸ hj)
   exact ht j (List.mem_cons_of_mem _ hj) (fun hl=>((zi hil).1 hl).elim hji hnj) oj hoj
  ·cases hj with
   | head=>exact absurd ((zi hil).2 (.inl rfl)) hnj
   | tail _ hj=>
    have hnj':¬ isL listed j:=fun hl=>hnj ((zi hil).2 (.inr hl))
    exact ⟨fun _=>hpd j hj hnj' oj hoj, fun hc=>absurd (by rw [zab hoj]; exact hc) (hno3 j hj hnj')⟩
 rcases hev with ⟨hw, e⟩ | ⟨hw, e⟩
 ·rw [if_pos (I.word hT ho hn hpre hw)]
  rw [jw (ops:=ops) (ρ2:=seen ops o ρ) o (fun t ht=>(zfa ht).symm)] at e
  refine op_wp hTab hC (fun d hd=>hT.fit i o d ho hd) Ist (fun x=>zjb I.R (zfu hlook) x) e (fun v h' ι' x w' e' S' W' hv=>fin e' S' W' hv fun j hj hnj oj hoj=>?_) (fun v h' ι' x w' e' S' hv=>hp v h' ι' x a w' e' S' hv)
  obtain ⟨ha1, ha2⟩:=hap j hj hnj oj hoj
  have hl:∀ t ∈ oj.looksAt ops, ρ t = (ρ.put o.dst v) t:=fun t ht=>(jo (ha1 t ht)).symm
  have hdd:∀ d, oj.dst = some d->ρ d = (ρ.put o.dst v) d:=fun d hd=>(jo (ha2 d hd)).symm
  have hc3:cls T oj ≠ 3:=fun hc=>hno3 j hj hnj (by rw [zab hoj]; exact hc)
  rcases (I.pend j hj hnj oj hoj).1 hc3 with ⟨hwj, vj, hdj, hsj⟩ | ⟨hwj, hdj⟩
  ·refine .inl ⟨by rw [← jf oj hl]; exact hwj, vj, fun d hd=>by rw [← hdd d hd]; exact hdj d hd, ?_⟩
   rw [← jw oj hl]
   have hcj:yb T ops j ≠ 2:=fun hc=>hnj (I.hp j hj hc)
   cases hpj:zba T oj.op with
   | true=>
    obtain ⟨v', h1, h2⟩:=zdd hpj hsj
    cases h1
    exact h2 _ _ _ _ _
   | false=>
    have hc1:yb T ops j = 1:=by
     rw [zab hoj] at hcj ⊢
     exact zfs hcj hc3 hpj
    have hlj:j ∈ zcp pl:=by
     rcases (hlk hcls j hj).1 hc1 with hb | hb
     ·exact absurd (zac (S:=isL listed) I.clL ho hpre (zbu hb)) hnj
     ·exact hb
    obtain ⟨oj', hoj', t, x', d, hop, hd, hf⟩:=zdb e' j hlj
    rw [hoj] at hoj'
    cases hoj'
    obtain ⟨v', p, ti, vs, hp1, hti, hld, hv', h1, h2⟩:=zes hop hsj
    cases h1
    have hρd:(ρ.put o.dst v) d = vj:=by rw [← hdd d hd]; exact hdj d hd
    -- what was read is one cell's, or an aggregate
    have hone:ti.agg = false->oneV vj = true:=by
     intro ha
     rw [ha] at hv'
     simp only [Bool.false_eq_true, if_false] at hv'
     subst hv'
     have h3:=hld _ (fun vs h=>(some vs:Option (List V)))
     have h4:∃ K':List V->M (List V), zah p 0 ti.sh K' h = some [vj] ∧ K' = fun vs _=>some vs:=⟨_, h3, rfl⟩
     obtain ⟨K', h5, hK⟩:=h4
     obtain ⟨us, hl1, hl2, hl3⟩:=zct h5
     rw [hK] at hl3
     cases hl3
     have hx:=hl2 0 (by rw [← hl1]; simp)
     simp only [List.getElem?_cons_zero] at hx
     exact (I.R.cell (a:=p.add (0 + 0)) (hX0 _) hx).choose_spec.2.2
    rcases hf with hu | ⟨p2, ti2, hp2, hti2, hl2⟩
    ·exfalso
     rw [hρd] at hu
     subst hu
     cases ha:ti.agg with
     | true=>rw [ha] at hv'; simp at hv'
     | false=>have:=hone ha; simp [oneV] at this
    ·have e1:Go.Ab.ev T (ρ.put o.dst v) x' = Go.Ab.ev T ρ x':=(ziy fun t' ht=>hl t' (zcm (by rw [hop]; simp [Op.operands]; exact ht.symm))).symm
     rw [e1, hp1] at hp2
     cases hp2
     rw [hti] at hti2
     cases hti2
     simp only [zf, hop, hp1, hti]
     show zah p 0 ti.sh (fun cs=>Go.Ab.mk ti.agg cs K0) h' = _
     rw [hl2, hρd]
     cases ha:ti.agg with
     | true=>
      rw [ha] at hv'
      simp only [if_true] at hv'
      subst hv'
      rfl
     | false=>
      have h1:=hone ha
      have:vj.cells = [vj]:=by cases vj <;> first | rfl | (simp [oneV] at h1)
      rw [this]
      rfl
  ·exact .inr ⟨by rw [← jf oj hl]; exact hwj, fun d hd=>by rw [← hdd d hd]; exact hdj d hd⟩
 ·rw [if_neg (by rw [I.word hT ho hn hpre hw]; simp)]
  refine fin e (Ist.go (fun d hd=>hT.fit i o d ho hd) I.R (Went.refl X ι h w)) (Went.refl X ι h w) ⟨#[], rfl, trivial⟩ fun j hj hnj oj hoj=>?_
  obtain ⟨ha1, ha2⟩:=hap j hj hnj oj hoj
  exact ((I.pend j hj hnj oj hoj).1 (fun hc=>hno3 j hj hnj (by rw [zab hoj]; exact hc))).looks (fun t ht=>(jo (ha1 t ht)).symm) (fun d hd=>(jo (ha2 d hd)).symm)
end
def unl (n:Nat) (listed:Array Bool):Nat:=(List.range n).countP fun i=>!listed.getD i false
theorem zkx {f g:Nat->Bool} {i:Nat} (hf:f i = true) (hg:g i = false) (h:∀ j, j ≠ i->g j = f j):∀ n, i < n->(List.range n).countP f = (List.range n).countP g + 1
 | 0, hi=>by omega
 | n + 1, hi=>by
  rw [List.range_succ, List.countP_append, List.countP_append]
  by_cases e:i = n
  ·subst e
   have:(List.range i).countP f = (List.range i).countP g:=List.countP_congr fun j hj=>by
    rw [h j (by have:=List.mem_range.1 hj; omega)]
   rw [this]
   simp [hf, hg]
  ·rw [zkx hf hg h n (by omega)]
   have:g n = f n:=h n (fun e'=>e e'.symm)
   simp only [List.countP_cons, List.countP_nil, this]
   omega
theorem unl_set {n:Nat} {listed:Array Bool} {i:Nat} (hsz:listed.size = n) (hi:i < n) (hn:¬ isL listed i):unl n listed = unl n (listed.setIfInBounds i true) + 1:=by
 have hil:i < listed.size:=by omega
 refine zkx (i:=i) ?_ ?_ (fun j hj=>?_) n hi
 ·simpa [isL] using hn
 ·have:isL (listed.setIfInBounds i true) i:=(zi hil).2 (.inl rfl)
  unfold isL at this
  rw [this]; rfl
 ·rw [getD_set_ne false (Ne.symm hj)]
theorem unl_zero {n:Nat} {listed:Array Bool} (h:unl n listed = 0):∀ i, i < n->isL listed i:=by
 intro i hi
 have:=(List.countP_eq_zero.1 h) i (List.mem_range.2 hi)
 simpa [isL] using this
theorem znx {ops:Array Oper} (hE:zfn ops = true) {listed:Array Bool} (hsz:listed.size = ops.size) (hr:Region.ready .any ops listed = []):∀ i, i < ops.size->isL listed i:=by
 intro i
 induction i using Nat.strongRecOn with
 | _ i ih=>
  intro hi
  by_cases hl:isL listed i
  ·exact hl
  ·exfalso
   have hm:i ∈ Region.ready .any ops listed:=mem_ready.2 ⟨by
    unfold isL at hl
    have:i < listed.size:=by omega
    simp [this] at hl ⊢
    exact hl, ops[i], by simp [hi], fun e he hb=>ih e.on (zmn hE (by simp [hi]) he hb) (Nat.lt_trans (zmn hE (by simp [hi]:ops[i]? = some ops[i]) he hb) hi)⟩
   rw [hr] at hm
   cases hm
section
variable {α:Type} {P:Program} {T:Tab} {base:Nat} {w0:World} {X:Nat->Prop} {call:Call α} {out:α} {N:Lot} {dfs:List Deferred} {ι₀:Io} {h₀:H} {w₁:World}
 {ops:Array Oper} {K:zb->M α} {E:V->M α} {Q:Exit->Act->World->Prop}
theorem zhz (T:Tab) (call:Call α) (K:zb->M α) (E:V->M α) (ρ:zb) (h:H) (out:α):∀ (pl:List Do) (done:List Nat), ya T call ops pl ρ K E h = some out ->
  zbk T ops (befs ops.toList []) pl done = true->(∀ i, i < ops.size->i ∈ done)->K ρ h = some out
 | [], _, e, _, _=>e
 | .op j :: pl, done, e, hc, hd=>by
  obtain ⟨o, ho, hnd, _⟩:=zbr hc
  exact absurd (hd j (jm ho)) hnd
 | .look j :: pl, done, e, hc, hd=>zhz T call K E ρ h out pl done (zdv e).2 hc hd
 | .expect _ _ :: pl, done, e, hc, hd=>zhz T call K E ρ h out pl done (zck e) hc hd
theorem drawn_any (hX0:∀ i, ¬ X i) (hTab:TabOk P T) (hC:zr P T base w0 call) (hE:zfn ops = true) (hT:TmpsOk T N ops)
  (hn:∀ ρ' h' ι' a' w', K ρ' h' = some out->St T base w0 X N dfs ι₀ h₀ w₁ ι' h' w' a'->FR ι' (okOf h' X) ρ' a'->Q .normal a' w')
  (hp:∀ v h' ι' x a' w', E v h' = some out->St T base w0 X N dfs ι₀ h₀ w₁ ι' h' w' a'->VR ι' (okOf h' X) v x->Q (.panic [{ v:=x, recovered:=false }]) a' w') :
  ∀ (fuel:Nat) (listed:Array Bool) (ι:Io) (h:H) (a:Act) (w:World) (pl:List Do) (done:List Nat) (ρ:zb) (Y:Nat->Prop) (idf:Nat->Option Nat), listed.size = ops.size->unl ops.size listed = fuel ->
   Inv P T base w0 Y idf call out N dfs ι₀ h₀ w₁ ops K E listed ι h w a pl done ρ->wpAny P .any ops Q fuel listed a w:=by
 have stop:∀ {listed:Array Bool} {ι:Io} {h:H} {a:Act} {w:World} {pl:List Do} {done:List Nat} {ρ:zb} {Y:Nat->Prop} {idf:Nat->Option Nat}, (∀ i, i < ops.size->isL listed i) ->
   Inv P T base w0 Y idf call out N dfs ι₀ h₀ w₁ ops K E listed ι h w a pl done ρ->Q .normal a w:=by
  intro listed ι h a w pl done ρ Y idf hall I
  have hYX:Y = X:=funext fun x=>propext ⟨fun hx=>(by obtain ⟨j, hj, hnj, hcj, _⟩:=I.own x hx; obtain ⟨o, ho⟩:=zev hcj; exact absurd (hall j (jm ho)) hnj), fun hx=>absurd hx (hX0 x)⟩
  subst hYX
  refine hn ρ h ι a w (zhz T call K E ρ h out pl done I.ev I.chk fun i hi=>I.sub i (hall i hi)) ⟨I.R, I.W.to hX0 hX0, hX0, I.sz, I.kp, I.df⟩ fun t=>I.fr t fun i hi hnl o ho=>absurd (hall i (jm ho)) hnl
 intro fuel
 induction fuel with
 | zero=>
  intro listed ι h a w pl done ρ Y idf hsz hu I
  have hall:=unl_zero hu
  refine ⟨?_, stop hall I⟩
  cases hr:Region.ready .any ops listed with
  | nil=>rfl
  | cons i l=>
   have hm:i ∈ Region.ready .any ops listed:=by rw [hr]; exact List.mem_cons_self
   obtain ⟨h1, o, ho, _⟩:=mem_ready.1 hm
   have:=hall i (jm ho)
   have hil:i < listed.size:=by rw [hsz]; exact jm ho
   unfold isL at this
   simp [hil] at h1 this
   rw [this] at h1; cases h1
 | succ fuel ih=>
  intro listed ι h a w pl done ρ Y idf hsz hu I
  refine ⟨fun hr=>stop (znx hE hsz hr) I, fun i hm=>?_⟩
  obtain ⟨h1, o, ho, hpre'⟩:=mem_ready.1 hm
  have hil:i < listed.size:=by rw [hsz]; exact jm ho
  have hnl:¬ isL listed i:=by
   unfold isL
   simp [hil] at h1 ⊢
   exact h1
  have hpre:∀ e ∈ o.after, Region.binds .any e = true->isL listed e.on:=hpre'
  have hsz':(listed.setIfInBounds i true).size = ops.size:=by simpa using hsz
  have hu':unl ops.size (listed.setIfInBounds i true) = fuel:=by
   have:=unl_set hsz (jm ho) hnl
   omega
  have goal:(if Region.wanted o (yielded ops a.tmps) then o.wp P a w (wpAny P .any ops Q fuel (listed.setIfInBounds i true)) Q else wpAny P .any ops Q fuel (listed.setIfInBounds i true) (a.put o.dst undef) w) ->
    wpOp P ops Q i (wpAny P .any ops Q fuel (listed.setIfInBounds i true)) a w:=by
   intro hg
   unfold wpOp
   rw [ho]
   dsimp only
   split
   ·rename_i hw; rw [if_pos hw] at hg; exact .inl hg
   ·rename_i hw; rw [if_neg hw] at hg; exact hg
  apply goal
  by_cases hd:i ∈ done
  ·exact I.step_pending hTab hT hsz ho hnl hpre hd fun Y' ι' a' w' I'=>ih _ ι' h a' w' pl done ρ Y' idf hsz' hu' I'
  ·obtain ⟨pl', done', ρ', h', Y', idf', I', hd' | ⟨hd', hcl, pl'', rfl⟩⟩:=Inv.reach hT ho hnl hpre pl done ρ h Y idf I hd
   ·exact I'.step_pending hTab hT hsz ho hnl hpre hd' fun Y'' ι' a' w' I''=>ih _ ι' h' a' w' pl' done' ρ' Y'' idf' hsz' hu' I''
   ·cases hA:zhx o with
    | true=>exact I'.step_app hTab hT hsz ho hnl hpre hcl hA (fun h'' ι' a' w' ρ'' I''=>ih _ ι' h'' a' w' pl'' (i :: done') ρ'' Y' idf' hsz' hu' I'')
    | false=>
    exact I'.step_heap hX0 hTab hC hT hsz ho hnl hpre hcl hA (fun h'' ι' a' w' ρ'' I''=>ih _ ι' h'' a' w' pl'' (i :: done') ρ'' X idf' hsz' hu' I'') hp
theorem drawn_ok (hm:P.follows .mixedOrders = true) (hX0:∀ i, ¬ X i) (hTab:TabOk P T) (hC:zr P T base w0 call) {plan:List Do} (hchk:zlk T N.n ops plan = true) (hkp:zfw (N.kp.map (·.1)) ops = true) {id:Nat} {ρ:zb} {h:H} {ι:Io} {a:Act} {w:World}
  (S:St T base w0 X N dfs ι₀ h₀ w₁ ι h w a) (F:FR ι (okOf h X) ρ a) (e:ya T call ops plan ρ K E h = some out)
  (hn:∀ ρ' h' ι' a' w', K ρ' h' = some out->St T base w0 X N dfs ι₀ h₀ w₁ ι' h' w' a'->FR ι' (okOf h' X) ρ' a'->Q .normal a' w')
  (hp:∀ v h' ι' x a' w', E v h' = some out->St T base w0 X N dfs ι₀ h₀ w₁ ι' h' w' a'->VR ι' (okOf h' X) v x->Q (.panic [{ v:=x, recovered:=false }]) a' w') :
  (Code.region id ops true).wp P Q a w:=by
 unfold zlk at hchk
 simp only [Bool.and_eq_true] at hchk
 obtain ⟨⟨hE, hT⟩, hG⟩:=hchk
 have hT:=tmps_ok hT hkp
 refine wp_region_draw fun t=>?_
 have hs:Region.schedule (P.follows .mixedOrders) ops t = Region.linearise .any ops t:=by
  unfold Region.schedule
  rw [hm]
  rfl
 rw [hs]
 refine wpAny_sound ops.size t _ a _ (drawn_any hX0 hTab hC hE hT hn hp ops.size (Array.replicate ops.size false) ι h a _ plan [] ρ X (fun _=>none) (by simp) ?_ ?_)
 ·unfold unl
  have:∀ i ∈ List.range ops.size, (!(Array.replicate ops.size false).getD i false) = true:=by
   intro i hi
   have:=List.mem_range.1 hi
   simp [this]
  rw [List.countP_eq_length.2 this, List.length_range]
 ·have hno:∀ i, ¬ isL (Array.replicate ops.size false) i:=by
   intro i hi
   unfold isL at hi
   simp only [Array.getD_eq_getD_getElem?] at hi
   rw [Array.getElem?_replicate] at hi
   split at hi <;> cases hi
  have S':=S.go' (w':=w.drew) S.R.drew (Went.drew X ι h w)
  refine ⟨e, hG, S'.R, WentX.of hX0 S'.W, S'.sz, S'.kp, S'.df, fun x hx=>absurd hx (hX0 x), fun x hx=>absurd hx (hX0 x), fun _ _ _ hi=>(by cases hi), fun i hi=>absurd hi (hno i), fun i hi=>(by cases hi), fun i hi=>(by cases hi), fun i hi=>absurd hi (hno i), fun t _=>F t, fun i hi=>(by cases hi)⟩
end
end Go.Ab
