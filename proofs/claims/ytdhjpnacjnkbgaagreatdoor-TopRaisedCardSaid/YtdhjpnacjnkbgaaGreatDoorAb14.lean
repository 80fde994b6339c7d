import Derived.Test.YtdhjpnacjnkbgaaGreatDoorAb12
set_option linter.unusedVariables false
set_option linter.unusedSimpArgs false
set_option linter.unusedSectionVars false
namespace Go.Ab
noncomputable def zep {β:Type}:Call β:=fun _ _ _=>fail
noncomputable def K0:V->M (V × H):=fun v h=>some (v, h)
noncomputable def E0:V->M (V × H):=fun _ _=>none
def Pend (T:Tab) (ops:Array Oper) (o:Oper) (ρ:Frame) (h:H):Prop:=
 (zah ops o ρ = some true ∧ ∃ v, (∀ d, o.dst = some d->ρ d = v) ∧ zi T zep ρ o K0 E0 h = some (v, h)) ∨
 (zah ops o ρ = some false ∧ ∀ d, o.dst = some d->ρ d = .tuple [])
theorem zdm {ops:Array Oper} {o:Oper} {t:Nat} (h:Operand.tmp t ∈ o.op.operands):t ∈ o.looksAt ops:=
 List.mem_append_left _ (List.mem_filterMap.2 ⟨.tmp t, by simpa using h, rfl⟩)
theorem zfg {ops:Array Oper} {o:Oper} {j t:Nat} {want:Bool} (hg:o.guard = some (j, want)) (ht:zbv ops j = some t):t ∈ o.looksAt ops:=by
 refine List.mem_append_right _ ?_
 rw [hg]
 unfold zbv at ht
 cases ho:ops[j]? with
 | none=>rw [ho] at ht; cases ht
 | some o'=>
  rw [ho] at ht
  dsimp only at ht
  simp [ho, ht]
theorem yi {α:Type} {T:Tab} {ops:Array Oper} {call:Call α} {ρ ρ2:Frame} {K E:V->M α} (o:Oper) (h:∀ t ∈ o.looksAt ops, ρ t = ρ2 t) :
  zi T call ρ o K E = zi T call ρ2 o K E:=
 zjk o fun x hx=>zkt fun t ht=>h t (zdm (ht ▸ hx))
theorem jx {ops:Array Oper} {ρ ρ2:Frame} (o:Oper) (h:∀ t ∈ o.looksAt ops, ρ t = ρ2 t):zah ops o ρ = zah ops o ρ2:=by
 unfold zah
 cases hg:o.guard with
 | none=>rfl
 | some gw=>
  obtain ⟨j, want⟩:=gw
  dsimp only
  cases ht:zbv ops j with
  | none=>rfl
  | some t=>
   dsimp only
   rw [h t (zfg hg ht)]
theorem Pend.looks {T:Tab} {ops:Array Oper} {o:Oper} {ρ ρ2:Frame} {h:H} (p:Pend T ops o ρ h) (hl:∀ t ∈ o.looksAt ops, ρ t = ρ2 t) (hd:∀ d, o.dst = some d->ρ d = ρ2 d):Pend T ops o ρ2 h:=by
 rcases p with ⟨h1, v, h2, h3⟩ | ⟨h1, h2⟩
 ·exact .inl ⟨by rw [← jx o hl]; exact h1, v, fun d hd'=>by rw [← hd d hd']; exact h2 d hd', by rw [← yi o hl]; exact h3⟩
 ·exact .inr ⟨by rw [← jx o hl]; exact h1, fun d hd'=>by rw [← hd d hd']; exact h2 d hd'⟩
theorem yf {ρ:Frame} {dst:Option Nat} {v:V} {t:Nat} (h:dst ≠ some t):(ρ.put dst v) t = ρ t:=by
 cases dst with
 | none=>rfl
 | some d=>
  show cond (Nat.beq t d) v (ρ t) = ρ t
  rw [zab (fun e=>h (by rw [e]))]; rfl
theorem zgw {ρ:Frame} {v:V} {t:Nat}:(ρ.put (some t) v) t = v:=by
 show cond (Nat.beq t t) v (ρ t) = v
 simp
theorem zij {T:Tab} {o:Oper}:cls T o = 0 ∨ cls T o = 1 ∧ (∃ t x, o.op = .load t x) ∨ cls T o = 2 ∨ cls T o = 3:=by
 unfold cls
 cases zbd T o.op with
 | true=>exact .inl rfl
 | false=>
  simp only [cond_false]
  generalize o.op = op
  cases op <;> first | exact .inr (.inr (.inl rfl)) | exact .inr (.inr (.inr rfl)) | exact .inr (.inl ⟨rfl, _, _, rfl⟩) | skip
  rename_i t
  dsimp only
  cases T.spec t
  ·exact .inr (.inr (.inr rfl))
  ·exact .inr (.inr (.inl rfl))
theorem zhp {T:Tab} {o:Oper} (h2:cls T o ≠ 2) (h3:cls T o ≠ 3) (hp:zbd T o.op = false):cls T o = 1:=by
 rcases zij (T:=T) (o:=o) with h | h | h | h
 ·exfalso
  unfold cls at h
  rw [hp] at h
  simp only [cond_false] at h
  generalize o.op = op at h
  cases op <;> first | (cases h; done) | skip
  rename_i t
  dsimp only at h
  cases hs:T.spec t <;> rw [hs] at h <;> cases h
 ·exact h.1
 ·exact absurd h h2
 ·exact absurd h h3
theorem cls_is1 {T:Tab} {o:Oper} (h:cls T o = 1):∃ t x, o.op = .load t x:=by
 rcases zij (T:=T) (o:=o) with h' | h' | h' | h'
 ·rw [h] at h'; cases h'
 ·exact h'.2
 ·rw [h] at h'; cases h'
 ·rw [h] at h'; cases h'
def zhe (T:Tab) (ops:Array Oper) (o:Oper) (ρ:Frame) (h:H) (Y:Nat->Prop) (id:Option Nat):Prop:=
 (∃ x, id = some x ∧ zah ops o ρ = some true ∧ Y x ∧ ∃ cs m, h.get x = some (.cells cs true) ∧ cs.all oneV = true ∧ (∀ d, o.dst = some d->ρ d = mvV m x) ∧
  ∀ (β:Type) (cl:Call β) (K' E':V->M β) (g:H), zi T cl ρ o K' E' g = K' (mvV m g.next) (g.push (.cells cs true))) ∨
 (id = none ∧ zah ops o ρ = some false ∧ ∀ d, o.dst = some d->ρ d = .tuple [])
theorem zhe.looks {T:Tab} {ops:Array Oper} {o:Oper} {ρ ρ2:Frame} {h h2:H} {Y Y2:Nat->Prop} {id:Option Nat} (p:zhe T ops o ρ h Y id) (hl:∀ t ∈ o.looksAt ops, ρ t = ρ2 t) (hd:∀ d, o.dst = some d->ρ d = ρ2 d)
  (hy:∀ x, id = some x->Y x->Y2 x) (hg:∀ x, id = some x->Y x->h2.get x = h.get x):zhe T ops o ρ2 h2 Y2 id:=by
 rcases p with ⟨x, h0, h1, h2, cs, m, h3, h4, h5, h6⟩ | ⟨h0, h1, h2⟩
 ·exact .inl ⟨x, h0, by rw [← jx o hl]; exact h1, hy x h0 h2, cs, m, by rw [hg x h0 h2]; exact h3, h4, fun d hd'=>by rw [← hd d hd']; exact h5 d hd', fun β cl K' E' g=>by rw [← yi o hl]; exact h6 β cl K' E' g⟩
 ·exact .inr ⟨h0, by rw [← jx o hl]; exact h1, fun d hd'=>by rw [← hd d hd']; exact h2 d hd'⟩
theorem Pend.push {T:Tab} {ops:Array Oper} {o:Oper} {ρ:Frame} {h:H} (b:Blk) (hdom:∀ i c, h.get i = some c->i < h.next) (h2:cls T o ≠ 2) (h3:cls T o ≠ 3) (p:Pend T ops o ρ h):Pend T ops o ρ (h.push b):=by
 rcases p with ⟨h1, v, hd, hs⟩ | p
 ·refine .inl ⟨h1, v, hd, ?_⟩
  cases hp:zbd T o.op with
  | true=>
   obtain ⟨v', h1, h2⟩:=zdv hp hs
   cases h1
   exact h2 _ _ _ _ _
  | false=>
   have hl:∃ t x, o.op = .load t x:=cls_is1 (zhp h2 h3 hp)
   obtain ⟨t, x, hl⟩:=hl
   obtain ⟨v', f1, f2⟩:=load_push (b:=b) hdom hl hs
   rw [f1] at hs
   cases hs
   exact f2 _ _ _ _
 ·exact .inr p
section
variable {α:Type} {P:Program} {T:Tab} {base:Nat} {w0:World} {X Y:Nat->Prop} {idf:Nat->Option Nat} {call:Call α} {out:α} {N:Lot} {dfs:List Deferred} {ι₀:Io} {h₀:H} {w₁:World}
 {ops:Array Oper} {ord:List Nat} {K:Frame->M α} {E:V->M α}
def isL (l:Array Bool) (i:Nat):Prop:=l.getD i false = true
structure Inv (P:Program) (T:Tab) (base:Nat) (w0:World) (X Y:Nat->Prop) (idf:Nat->Option Nat) (call:Call α) (out:α) (N:Lot) (dfs:List Deferred) (ι₀:Io) (h₀:H) (w₁:World) (ops:Array Oper) (ord:List Nat) (K:Frame->M α) (E:V->M α)
  (listed:Array Bool) (ι:Io) (h:H) (w:World) (a:Act) (pl:List Do) (done:List Nat) (ρ:Frame):Prop where
 ev:jw T call ops pl ρ K E h = some out
 chk:zaq T ops (befs ops.toList []) pl done = true
 R:HR T base w0 Y ι h w
 W:WentX X Y ι₀ h₀ w₁ ι h w
 sz:a.tmps.size = N.n
 kp:∀ p ∈ N.kp, a.tmps.getD p.1 undef = p.2
 df:a.defers = dfs
 xy:∀ x, X x->Y x
 x0:Lft X h₀
 lt:∀ x, Y x->x < h.next
 own:∀ x, Y x->X x ∨ ∃ i ∈ done, ¬ isL listed i ∧ yj T ops i = 3 ∧ idf i = some x
 inj:∀ i j x, i ∈ done->j ∈ done->¬ isL listed i->¬ isL listed j->yj T ops i = 3->yj T ops j = 3->idf i = some x->idf j = some x->i = j
 sub:∀ i, isL listed i->i ∈ done
 hp:∀ i ∈ done, yj T ops i = 2->isL listed i
 clD:∀ i ∈ done, ∀ o, ops[i]? = some o->∀ e ∈ o.after, Region.binds .any e = true->e.on ∈ done
 clL:∀ i, isL listed i->∀ o, ops[i]? = some o->∀ e ∈ o.after, Region.binds .any e = true->isL listed e.on
 fr:∀ t, (∀ i ∈ done, ¬ isL listed i->∀ o, ops[i]? = some o->o.dst ≠ some t)->VR ι (okOf h Y) (ρ t) (a.tmps.getD t undef)
 pend:∀ i ∈ done, ¬ isL listed i->∀ o, ops[i]? = some o->(cls T o ≠ 3->Pend T ops o ρ h) ∧ (cls T o = 3->zhe T ops o ρ h (fun x=>Y x ∧ h₀.next≤x) (idf i))
 sp:ord = done.reverse ++ zco pl
 nx:∀ j ∈ done, ¬ isL listed j->∃ m, (m = j ∨ m ∈ zbm ord j) ∧ ∀ x, Bef ops x m->isL listed x
variable {listed:Array Bool} {ι:Io} {h:H} {w:World} {a:Act} {pl:List Do} {done:List Nat} {ρ:Frame}
theorem zck {S:Nat->Prop} (hc:∀ i, S i->∀ o, ops[i]? = some o->∀ e ∈ o.after, Region.binds .any e = true->S e.on) {i j:Nat} (hb:Bef ops i j):S j->S i:=by
 induction hb with
 | one ho he hb=>exact fun hj=>hc _ hj _ ho _ he hb
 | cons ho he hb _ ih=>exact fun hj=>ih (hc _ hj _ ho _ he hb)
theorem yq {S:Nat->Prop} (hc:∀ i, S i->∀ o, ops[i]? = some o->∀ e ∈ o.after, Region.binds .any e = true->S e.on) {i j:Nat} {o:Oper} (ho:ops[j]? = some o) (hr:∀ e ∈ o.after, Region.binds .any e = true->S e.on) (hb:Bef ops i j):S i:=by
 cases hb with
 | one ho' he hb=>rw [ho] at ho'; cases ho'; exact hr _ he hb
 | cons ho' he hb hbb=>rw [ho] at ho'; cases ho'; exact zck hc hbb (hr _ he hb)
theorem zbh {i:Nat} {o:Oper} (ho:ops[i]? = some o):yj T ops i = cls T o:=by unfold yj; rw [ho]
theorem zdz {i:Nat} (h:yj T ops i = 3):∃ o, ops[i]? = some o:=by
 cases ho:ops[i]? with
 | none=>unfold yj at h; rw [ho] at h; cases h
 | some o=>exact ⟨o, rfl⟩
theorem Inv.adv (hT:TmpsOk T N ops ord) {j:Nat} {d:Do} {b:Bool} (hd0:d.at = some (j, b)) (I:Inv P T base w0 X Y idf call out N dfs ι₀ h₀ w₁ ops ord K E listed ι h w a (d :: pl) done ρ) (hj:yj T ops j ≠ 2) {i0:Nat} (hi0:i0 = j ∨ i0 ∈ zco pl) (hp0:∀ x, Bef ops x i0->isL listed x) :
  ∃ Y' idf' h' ρ', Inv P T base w0 X Y' idf' call out N dfs ι₀ h₀ w₁ ops ord K E listed ι h' w a pl (j :: done) ρ':=by
 obtain ⟨o, ho, hnd, hpre, hhp, hlk, hchk⟩:=ye hd0 I.chk
 obtain ⟨o', ho', hev⟩:=zii hd0 I.ev
 rw [ho] at ho'
 cases ho'
 have hsp:ord = done.reverse ++ j :: zco pl:=by rw [I.sp, zlm hd0]
 clear hd0
 have haf:zbm ord j = zco pl:=by rw [hsp]; exact zfy (by simpa using hnd)
 have hnx:∀ i ∈ j :: done, ¬ isL listed i->∃ m, (m = i ∨ m ∈ zbm ord i) ∧ ∀ x, Bef ops x m->isL listed x:=by
  intro i hi hn
  rcases List.mem_cons.1 hi with rfl | hi
  ·exact ⟨i0, by rw [haf]; exact hi0, hp0⟩
  ·exact I.nx i hi hn
 have hsp':ord = (j :: done).reverse ++ zco pl:=by rw [hsp]; simp
 have hnl:¬ isL listed j:=fun hl=>hnd (I.sub j hl)
 have hcj:=zbh (T:=T) ho
 rw [hcj] at hj
 -- what stands apart from j's own place
 have hap:∀ i ∈ done, ¬ isL listed i->∀ oi, ops[i]? = some oi->(∀ t ∈ oi.looksAt ops, o.dst ≠ some t) ∧ ∀ d, oi.dst = some d->o.dst ≠ some d:=by
  intro i hi hni oi hoi
  have hcl:∀ i, i ∈ done->∀ o, ops[i]? = some o->∀ e ∈ o.after, Region.binds .any e = true->e.on ∈ done:=I.clD
  refine ⟨fun t ht hd=>hnd ?_, fun d hd hd'=>hnd ?_⟩
  ·rcases hT.look j i o oi t ho hoi hd ht with hb | ⟨x, hx2, hx3, hx4⟩ | ⟨hb1, hb2⟩
   ·exact zck (S:=fun i=>i ∈ done) hcl hb hi
   ·exfalso
    rcases hx4 with rfl | hx4
    ·rw [zbh ho] at hx2; exact hj hx2
    ·have hxd:x ∈ done:=yq (S:=fun i=>i ∈ done) I.clD ho hpre hx4
     exact hni (zck (S:=isL listed) I.clL hx3 (I.hp x hxd hx2))
   ·exfalso
    refine hni (hp0 i ?_)
    rcases hi0 with rfl | hi0
    ·exact hb1
    ·exact hb2 i0 (by rw [haf]; exact hi0)
  ·have:=hT.one i j oi o d hoi ho hd hd'
   subst this; exact hi
 have hself:∀ v, ∀ t ∈ o.looksAt ops, ρ t = (ρ.put o.dst v) t:=by
  intro v t ht
  exact (yf fun hd=>hT.self j o t ho hd ht).symm
 have hne:∀ i ∈ done, i ≠ j:=fun i hi e=>hnd (e ▸ hi)
 have clD':∀ i ∈ j :: done, ∀ o, ops[i]? = some o->∀ e ∈ o.after, Region.binds .any e = true->e.on ∈ j :: done:=by
  intro i hi oi hoi e he hb
  cases hi with
  | head=>rw [ho] at hoi; cases hoi; exact List.mem_cons_of_mem _ (hpre e he hb)
  | tail _ hi=>exact List.mem_cons_of_mem _ (I.clD i hi oi hoi e he hb)
 have hp':∀ i ∈ j :: done, yj T ops i = 2->isL listed i:=by
  intro i hi hc
  cases hi with
  | head=>rw [hcj] at hc; exact absurd hc hj
  | tail _ hi=>exact I.hp i hi hc
 have idold:∀ i ∈ done, ¬ isL listed i->yj T ops i = 3->∀ x, idf i = some x->Y x:=by
  intro i hi hn hc x hx
  obtain ⟨oi, hoi⟩:=zdz hc
  rcases (I.pend i hi hn oi hoi).2 (by rw [← zbh hoi]; exact hc) with ⟨y, h0, _, hy, _⟩ | ⟨h0, _⟩
  ·rw [h0] at hx; cases hx; exact hy.1
  ·rw [h0] at hx; cases hx
 -- what is as it was but for the frame's place
 have same:∀ (idf':Nat->Option Nat) (v:V), (∀ i ∈ done, idf' i = idf i)->(cls T o = 3->idf' j = none)->jw T call ops pl (ρ.put o.dst v) K E h = some out->((cls T o ≠ 3->Pend T ops o (ρ.put o.dst v) h) ∧ (cls T o = 3->zhe T ops o (ρ.put o.dst v) h (fun x=>Y x ∧ h₀.next≤x) (idf' j))) ->
   Inv P T base w0 X Y idf' call out N dfs ι₀ h₀ w₁ ops ord K E listed ι h w a pl (j :: done) (ρ.put o.dst v):=by
  intro idf' v hid hidj e hpd
  refine ⟨e, hchk, I.R, I.W, I.sz, I.kp, I.df, I.xy, I.x0, I.lt, fun x hx=>?_, fun i k x hi hk hni hnk hci hck hxi hxk=>?_, fun i hi=>List.mem_cons_of_mem _ (I.sub i hi), hp', clD', I.clL, fun t ht=>?_, fun i hi hn oi hoi=>?_, hsp', hnx⟩
  ·rcases I.own x hx with hx | ⟨i, hi, h1, h2, h3⟩
   ·exact .inl hx
   exact .inr ⟨i, List.mem_cons_of_mem _ hi, h1, h2, by rw [hid i hi]; exact h3⟩
  ·cases hi with
   | head=>rw [hcj] at hci; rw [hidj hci] at hxi; cases hxi
   | tail _ hi=>cases hk with
    | head=>rw [hcj] at hck; rw [hidj hck] at hxk; cases hxk
    | tail _ hk=>exact I.inj i k x hi hk hni hnk hci hck (by rw [← hid i hi]; exact hxi) (by rw [← hid k hk]; exact hxk)
  ·rw [yf (ht j List.mem_cons_self hnl o ho)]
   exact I.fr t fun i hi=>ht i (List.mem_cons_of_mem _ hi)
  ·cases hi with
   | head=>rw [ho] at hoi; cases hoi; exact hpd
   | tail _ hi=>
    obtain ⟨h1, h2⟩:=hap i hi hn oi hoi
    have hl:∀ t ∈ oi.looksAt ops, ρ t = (ρ.put o.dst v) t:=fun t ht=>(yf (h1 t ht)).symm
    have hd:∀ d, oi.dst = some d->ρ d = (ρ.put o.dst v) d:=fun d hd=>(yf (h2 d hd)).symm
    refine ⟨fun hc=>((I.pend i hi hn oi hoi).1 hc).looks hl hd, fun hc=>?_⟩
    rw [hid i hi]
    exact ((I.pend i hi hn oi hoi).2 hc).looks hl hd (fun _ _ h=>h) (fun _ _ _=>rfl)
 rcases hev with ⟨hw, e⟩ | ⟨hw, e⟩
 ·by_cases h3:cls T o = 3
  ·-- memory is told of
   obtain ⟨cs, m, e1, hfl, hall⟩:=zlc h3 e
   refine ⟨fun x=>Y x ∨ x = h.next, fun i=>if i = j then some h.next else idf i, h.push (.cells cs true), ρ.put o.dst (mvV m h.next), e1, hchk, I.R.reserve _, I.W.reserve I.x0.lt _, I.sz, I.kp, I.df, fun x hx=>.inl (I.xy x hx), I.x0, ?_, ?_, ?_,
    fun i hi=>List.mem_cons_of_mem _ (I.sub i hi), hp', clD', I.clL, ?_, ?_, hsp', hnx⟩
   ·rintro x (hx | rfl)
    ·exact Nat.lt_succ_of_lt (I.lt x hx)
    ·exact Nat.lt_succ_self _
   ·rintro x (hx | rfl)
    ·rcases I.own x hx with hx | ⟨i, hi, hn, hc, hx⟩
     ·exact .inl hx
     exact .inr ⟨i, List.mem_cons_of_mem _ hi, hn, hc, by rw [if_neg (hne i hi)]; exact hx⟩
    ·exact .inr ⟨j, List.mem_cons_self, hnl, by rw [hcj]; exact h3, if_pos rfl⟩
   ·intro i k x hi hk hni hnk hci hck hxi hxk
    cases hi with
    | head=>cases hk with
     | head=>rfl
     | tail _ hk=>
      exfalso
      rw [if_pos rfl] at hxi
      rw [if_neg (hne k hk)] at hxk
      cases hxi
      have:=I.lt _ (idold k hk hnk hck _ hxk)
      omega
    | tail _ hi=>cases hk with
     | head=>
      exfalso
      rw [if_pos rfl] at hxk
      rw [if_neg (hne i hi)] at hxi
      cases hxk
      have:=I.lt _ (idold i hi hni hci _ hxi)
      omega
     | tail _ hk=>
      rw [if_neg (hne i hi)] at hxi
      rw [if_neg (hne k hk)] at hxk
      exact I.inj i k x hi hk hni hnk hci hck hxi hxk
   ·intro t ht
    rw [yf (ht j List.mem_cons_self hnl o ho)]
    refine (I.fr t fun i hi=>ht i (List.mem_cons_of_mem _ hi)).mono (fun _ _=>rfl) fun i hi=>⟨Nat.lt_succ_of_lt hi.1, fun e=>?_⟩
    rcases e with e | e
    ·exact hi.2 e
    ·have:=hi.1; omega
   ·intro i hi hn oi hoi
    cases hi with
    | head=>
     rw [ho] at hoi
     cases hoi
     refine ⟨fun hc=>absurd h3 hc, fun _=>.inl ⟨h.next, if_pos rfl, ?_, ⟨.inr rfl, I.W.next⟩, cs, m, by rw [yd, if_pos rfl], hfl, fun d hd=>by rw [hd]; exact zgw, fun β cl K' E' g=>?_⟩⟩
     ·rw [← jx o (hself _)]; exact hw
     ·rw [← yi o (hself _)]; exact hall β cl K' E' g
    | tail _ hi=>
     obtain ⟨h1, h2⟩:=hap i hi hn oi hoi
     have hl:∀ t ∈ oi.looksAt ops, ρ t = (ρ.put o.dst (mvV m h.next)) t:=fun t ht=>(yf (h1 t ht)).symm
     have hd:∀ d, oi.dst = some d->ρ d = (ρ.put o.dst (mvV m h.next)) d:=fun d hd=>(yf (h2 d hd)).symm
     refine ⟨fun hc=>?_, fun hc=>?_⟩
     ·have hc2:cls T oi ≠ 2:=fun hc2=>hn (I.hp i hi (by rw [zbh hoi]; exact hc2))
      exact (((I.pend i hi hn oi hoi).1 hc).push _ I.R.dom hc2 hc).looks hl hd
     ·show zhe T ops oi _ _ _ (if i = j then some h.next else idf i)
      rw [if_neg (hne i hi)]
      exact ((I.pend i hi hn oi hoi).2 hc).looks hl hd (fun _ _ h=>⟨.inl h.1, h.2⟩) (fun x _ hx=>by rw [yd, if_neg (by have:=I.lt x hx.1; omega)])
  ·have hcls:zbd T o.op = true ∨ ∃ t x, o.op = .load t x:=by
    cases hp:zbd T o.op with
    | true=>exact .inl rfl
    | false=>
     exact .inr (cls_is1 (zhp hj h3 hp))
   have hcst:∃ v, jw T call ops pl (ρ.put o.dst v) K E h = some out ∧ ∀ (β:Type) (c:Call β) (K' E':V->M β), zi T c ρ o K' E' h = K' v h:=by
    rcases hcls with hp | ⟨t, x, hp⟩
    ·obtain ⟨v, h1, h2⟩:=zdv hp e
     exact ⟨v, h1, fun β c K' E'=>h2 β c K' E' h⟩
    ·obtain ⟨v, _, _, _, _, _, _, _, h1, h2⟩:=zhv hp e
     exact ⟨v, h1, h2⟩
   obtain ⟨v, e1, hc⟩:=hcst
   refine ⟨Y, idf, h, _, same idf v (fun _ _=>rfl) (fun h=>absurd h h3) e1 ⟨fun _=>.inl ⟨by rw [← jx o (hself v)]; exact hw, v, fun d hd=>by rw [hd]; exact zgw, ?_⟩, fun h=>absurd h h3⟩⟩
   rw [← yi o (hself v)]
   exact hc _ _ _ _
 ·refine ⟨Y, fun i=>if i = j then none else idf i, h, _, same _ _ (fun i hi=>if_neg (hne i hi)) (fun _=>if_pos rfl) e ⟨fun _=>.inr ⟨by rw [← jx o (hself _)]; exact hw, fun d hd=>by rw [hd]; exact zgw⟩, fun _=>.inr ⟨if_pos rfl, by rw [← jx o (hself _)]; exact hw, fun d hd=>by rw [hd]; exact zgw⟩⟩⟩
theorem Inv.reach (hT:TmpsOk T N ops ord) {i:Nat} {oi:Oper} (hi:ops[i]? = some oi) (hn:¬ isL listed i) (hpre:∀ e ∈ oi.after, Region.binds .any e = true->isL listed e.on) :
  ∀ (pl:List Do) (done:List Nat) (ρ:Frame) (h:H) (Y:Nat->Prop) (idf:Nat->Option Nat), Inv P T base w0 X Y idf call out N dfs ι₀ h₀ w₁ ops ord K E listed ι h w a pl done ρ->i ∉ done ->
   ∃ pl' done' ρ' h' Y' idf', Inv P T base w0 X Y' idf' call out N dfs ι₀ h₀ w₁ ops ord K E listed ι h' w a pl' done' ρ' ∧ (i ∈ done' ∨ (i ∉ done' ∧ yj T ops i = 2 ∧ ∃ d b pl'', Do.at d = some (i, b) ∧ pl' = d :: pl''))
 | [], done, ρ, h, Y, idf, I, hd=>by
  have:=I.chk
  simp only [zaq, List.all_eq_true] at this
  exact absurd (by simpa using this i (List.mem_range.2 (jn hi))) hd
 | .look j :: pl, done, ρ, h, Y, idf, I, hd=>
  Inv.reach hT hi hn hpre pl done ρ h Y idf { I with ev:=(zcv I.ev).2, chk:=I.chk, sp:=I.sp } hd
 | .expect t fs :: pl, done, ρ, h, Y, idf, I, hd=>
  Inv.reach hT hi hn hpre pl done ρ h Y idf { I with ev:=zcb I.ev, chk:=I.chk, sp:=I.sp } hd
 | .op j :: pl, done, ρ, h, Y, idf, I, hd=>by
  by_cases hc:yj T ops j = 2
  ·by_cases hji:j = i
   ·subst hji; exact ⟨_, done, ρ, h, Y, idf, I, .inr ⟨hd, hc, _, _, pl, rfl, rfl⟩⟩
   ·exfalso
    obtain ⟨o, ho, hnd, _, _, _, hchk⟩:=ye rfl I.chk
    have hb:=zad (jn hi) hc pl (j :: done) hchk (by simp; exact ⟨fun e=>hji e.symm, hd⟩) List.mem_cons_self
    exact hnd (I.sub j (yq (S:=isL listed) I.clL hi hpre (zay hb)))
  ·have hi0:i = j ∨ i ∈ zco pl:=by
    obtain ⟨_, _, _, _, _, _, hchk⟩:=ye rfl I.chk
    rcases zbb (jn hi) pl (j :: done) hchk with hm | hm
    ·rcases List.mem_cons.1 hm with rfl | hm
     ·exact .inl rfl
     ·exact absurd hm hd
    ·exact .inr hm
   obtain ⟨Y', idf', h', ρ', I'⟩:=I.adv hT rfl hc hi0 fun x hb=>yq (S:=isL listed) I.clL hi hpre hb
   by_cases hji:j = i
   ·subst hji; exact ⟨pl, _, ρ', h', Y', idf', I', .inl List.mem_cons_self⟩
   ·exact Inv.reach hT hi hn hpre pl (j :: done) ρ' h' Y' idf' I' (by simp; exact ⟨fun e=>hji e.symm, hd⟩)
 | .np j :: pl, done, ρ, h, Y, idf, I, hd=>by
  by_cases hc:yj T ops j = 2
  ·by_cases hji:j = i
   ·subst hji; exact ⟨_, done, ρ, h, Y, idf, I, .inr ⟨hd, hc, _, _, pl, rfl, rfl⟩⟩
   ·exfalso
    obtain ⟨o, ho, hnd, _, _, _, hchk⟩:=ye rfl I.chk
    have hb:=zad (jn hi) hc pl (j :: done) hchk (by simp; exact ⟨fun e=>hji e.symm, hd⟩) List.mem_cons_self
    exact hnd (I.sub j (yq (S:=isL listed) I.clL hi hpre (zay hb)))
  ·have hi0:i = j ∨ i ∈ zco pl:=by
    obtain ⟨_, _, _, _, _, _, hchk⟩:=ye rfl I.chk
    rcases zbb (jn hi) pl (j :: done) hchk with hm | hm
    ·rcases List.mem_cons.1 hm with rfl | hm
     ·exact .inl rfl
     ·exact absurd hm hd
    ·exact .inr hm
   obtain ⟨Y', idf', h', ρ', I'⟩:=I.adv hT rfl hc hi0 fun x hb=>yq (S:=isL listed) I.clL hi hpre hb
   by_cases hji:j = i
   ·subst hji; exact ⟨pl, _, ρ', h', Y', idf', I', .inl List.mem_cons_self⟩
   ·exact Inv.reach hT hi hn hpre pl (j :: done) ρ' h' Y' idf' I' (by simp; exact ⟨fun e=>hji e.symm, hd⟩)
theorem jc {listed:Array Bool} {i j:Nat} (hi:i < listed.size):isL (listed.setIfInBounds i true) j ↔ j = i ∨ isL listed j:=by
 unfold isL
 simp only [Array.getD_eq_getD_getElem?, Array.getElem?_setIfInBounds]
 by_cases h:i = j
 ·subst h; simp [hi]
 ·have:¬ j = i:=fun e=>h e.symm
  simp [h, this]
theorem wanted_eq {o:Oper} {a:Act} {ι:Io} {ok:Nat->Prop} (hF:∀ j want t, o.guard = some (j, want)->zbv ops j = some t->VR ι ok (ρ t) (a.tmps.getD t undef)) {b:Bool} (hw:zah ops o ρ = some b) :
  Region.wanted o (yielded ops a.tmps) = b:=by
 unfold zah at hw
 cases hg:o.guard with
 | none=>rw [hg] at hw; cases hw; simp [Region.wanted, hg]
 | some gw=>
  obtain ⟨j, want⟩:=gw
  rw [hg] at hw
  dsimp only at hw
  cases ht:zbv ops j with
  | none=>rw [ht] at hw; cases hw
  | some t=>
   rw [ht] at hw
   dsimp only at hw
   have hFt:=hF j want t hg ht
   generalize ρ t = u at hw hFt
   cases u with
   | bool g=>
    cases hw
    have hy:=zgv (ops:=ops) ht g hFt
    simp only [Region.wanted, hg, hy]
    cases g <;> cases want <;> rfl
   | tuple vs=>
    cases vs with
    | cons _ _=>cases hw
    | nil=>
     cases hw
     obtain ⟨arr, harr, hv⟩:=hFt
     have:arr = #[]:=Array.eq_empty_of_size_eq_zero (by simpa using hv.length.symm)
     subst this
     simp [Region.wanted, hg, zfv (ops:=ops) ht harr]
   | _=>cases hw
def seen (ops:Array Oper) (o:Oper) (ρ:Frame):Frame:=fun t=>cond ((o.looksAt ops).contains t) (ρ t) .undef
theorem zgc {o:Oper} {t:Nat} (h:t ∈ o.looksAt ops):seen ops o ρ t = ρ t:=by
 unfold seen
 rw [show (o.looksAt ops).contains t = true by simpa using h]; rfl
theorem zgg {o:Oper} {ι:Io} {ok:Nat->Prop} {a:Act} (h:∀ t ∈ o.looksAt ops, VR ι ok (ρ t) (a.tmps.getD t undef)):FR ι ok (seen ops o ρ) a:=by
 intro t
 by_cases ht:t ∈ o.looksAt ops
 ·rw [zgc ht]; exact h t ht
 ·unfold seen
  rw [show (o.looksAt ops).contains t = false by simpa using ht]; trivial
end
section
variable {α:Type} [Subsingleton α] {P:Program} {T:Tab} {base:Nat} {w0:World} {X Y:Nat->Prop} {idf:Nat->Option Nat} {call:Call α} {out:α} {N:Lot} {dfs:List Deferred} {ι₀:Io} {h₀:H} {w₁:World}
 {ops:Array Oper} {ord:List Nat} {K:Frame->M α} {E:V->M α} {listed:Array Bool} {ι:Io} {h:H} {w:World} {a:Act} {pl:List Do} {done:List Nat} {ρ:Frame}
 {next:Act->World->Prop} {Q:Exit->Act->World->Prop}
theorem Inv.looked (hT:TmpsOk T N ops ord) (I:Inv P T base w0 X Y idf call out N dfs ι₀ h₀ w₁ ops ord K E listed ι h w a pl done ρ) {i:Nat} {o:Oper} (ho:ops[i]? = some o) (hni:¬ isL listed i) (hpre:∀ e ∈ o.after, Region.binds .any e = true->isL listed e.on) :
  ∀ t ∈ o.looksAt ops, VR ι (okOf h Y) (ρ t) (a.tmps.getD t undef):=fun t ht=>
 I.fr t fun j hj hnj oj hoj hd=>by
  rcases hT.look j i oj o t hoj ho hd ht with hb | ⟨x, hx2, hx3, hx4⟩ | ⟨hb1, hb2⟩
  ·exact hnj (yq (S:=isL listed) I.clL ho hpre hb)
  ·have hxd:x ∈ done:=by
    rcases hx4 with rfl | hx4
    ·exact hj
    ·exact zck (S:=fun i=>i ∈ done) I.clD hx4 hj
   exact hni (zck (S:=isL listed) I.clL hx3 (I.hp x hxd hx2))
  ·obtain ⟨m, hm, hpm⟩:=I.nx j hj hnj
   refine hni (hpm i ?_)
   rcases hm with rfl | hm
   ·exact hb1
   ·exact hb2 m hm
theorem Inv.word (hT:TmpsOk T N ops ord) (I:Inv P T base w0 X Y idf call out N dfs ι₀ h₀ w₁ ops ord K E listed ι h w a pl done ρ) {i:Nat} {o:Oper} (ho:ops[i]? = some o) (hni:¬ isL listed i) (hpre:∀ e ∈ o.after, Region.binds .any e = true->isL listed e.on) {b:Bool} (hw:zah ops o ρ = some b) :
  Region.wanted o (yielded ops a.tmps) = b:=
 wanted_eq (fun j want t hg ht=>I.looked hT ho hni hpre t (zfg hg ht)) hw
theorem fr_put {ι':Io} {h':H} {dst:Option Nat} {v:V} {x:Value} {ρ':Frame} (hd:∀ d, dst = some d->d < a.tmps.size) (hsame:∀ t, dst ≠ some t->ρ' t = ρ t) (hat:∀ d, dst = some d->ρ' d = v)
  (hv:VR ι' (okOf h' X) v x) {t:Nat} (hold:dst ≠ some t->VR ι' (okOf h' X) (ρ t) (a.tmps.getD t undef)):VR ι' (okOf h' X) (ρ' t) ((a.put dst x).tmps.getD t undef):=by
 cases dst with
 | none=>rw [hsame t (by simp)]; exact hold (by simp)
 | some d=>
  rw [zhm (hd d rfl)]
  by_cases e:t = d
  ·subst e; rw [if_pos rfl, hat t rfl]; exact hv
  ·rw [if_neg e, hsame t (fun h=>e (by cases h; rfl))]
   exact hold fun h=>e (by cases h; rfl)
theorem cls_nx {o:Oper} (h:isNx o.op = true):cls T o = 2:=by
 unfold cls
 generalize o.op = op at h ⊢
 cases op <;> first | (cases h; done) | rfl
theorem op_wpX {o:Oper} (hcl:cls T o ≠ 2) (hTab:TabOk P T) {ρ2:Frame} {v:V} {h2:H} (R:HR T base w0 Y ι h w) (hY:∀ i, Y i->i < h.next) (hρ:∀ x, VR ι (okOf h Y) (Go.Ab.ev T ρ2 x) (a.eval x)) (e:zi T zep ρ2 o K0 E0 h = some (v, h2))
  (hn:∀ ι' x w', HR T base w0 Y ι' h2 w'->Went Y ι h w ι' h2 w'->VR ι' (okOf h2 Y) v x->next (a.put o.dst x) w'):o.wp P a w next Q:=by
 unfold Oper.wp
 rcases ziv (P:=P) (fun hx=>absurd (cls_nx hx) hcl) hTab R hY hρ e with ⟨v', h', ι', x, w', e1, hr, R', W', hv⟩ | ⟨v', x, e1, hr, hv⟩ | ⟨g, args, xs, hr, hv, e1⟩
 ·cases e1
  rcases hr with hr | ⟨rfl, hr⟩
  ·rw [hr]; exact hn ι' x w' R' W' hv
  ·rw [hr]; exact hn ι' undef w' R' W' hv
 ·cases e1
 ·cases e1
theorem Inv.step_pending (hTab:TabOk P T) (hT:TmpsOk T N ops ord) (hsz:listed.size = ops.size) (I:Inv P T base w0 X Y idf call out N dfs ι₀ h₀ w₁ ops ord K E listed ι h w a pl done ρ) {i:Nat} {o:Oper} (ho:ops[i]? = some o) (hn:¬ isL listed i)
  (hpre:∀ e ∈ o.after, Region.binds .any e = true->isL listed e.on) (hi:i ∈ done) (hnext:∀ Y' ι' a' w', Inv P T base w0 X Y' idf call out N dfs ι₀ h₀ w₁ ops ord K E (listed.setIfInBounds i true) ι' h w' a' pl done ρ->next a' w') :
  if Region.wanted o (yielded ops a.tmps) then o.wp P a w next Q else next (a.put o.dst undef) w:=by
 have hil:i < listed.size:=by rw [hsz]; exact jn ho
 have hlook:=I.looked hT ho hn hpre
 have hdsz:∀ d, o.dst = some d->d < a.tmps.size:=fun d hd=>by rw [I.sz]; exact (hT.fit i o d ho hd).1
 have hci:=zbh (T:=T) ho
 have fin:∀ {Y':Nat->Prop} {ι':Io} {w':World} {v:V} {x:Value}, HR T base w0 Y' ι' h w'->WentX X Y' ι₀ h₀ w₁ ι' h w'->(∀ x, X x->Y' x)->(∀ x, Y' x->Y x)->(∀ j ∈ done, j ≠ i->¬ isL listed j->yj T ops j = 3->∀ x, idf j = some x->Y x->Y' x) ->
   (∀ x, Y' x->idf i = some x->X x)->(∀ k, okOf h Y k->ι' k = ι k)->VR ι' (okOf h Y') v x->(∀ d, o.dst = some d->ρ d = v)->next (a.put o.dst x) w':=by
  intro Y' ι' w' v x R' W' hxy hsub hkeep hself hio hv hd
  have hok:∀ k, okOf h Y k->okOf h Y' k:=fun k hk=>⟨hk.1, fun e=>hk.2 (hsub k e)⟩
  refine hnext Y' ι' _ w' ⟨I.ev, I.chk, R', W', by rw [zct]; exact I.sz, fun p hp=>by rw [zbx (fun e=>(hT.fit i o _ ho e).2 p hp rfl)]; exact I.kp p hp, by rw [zhs]; exact I.df, hxy, I.x0, fun x hx=>I.lt x (hsub x hx), fun x hx=>?_, fun j k x hj hk hnj hnk hcj hck hxj hxk=>?_,
   fun j hj=>?_, fun j hj hc=>(jc hil).2 (.inr (I.hp j hj hc)), I.clD, fun j hj oj hoj e he hb=>?_, fun t ht=>?_, fun j hj hnj oj hoj=>?_, I.sp, fun j hj hnj=>(I.nx j hj fun hl=>hnj ((jc hil).2 (.inr hl))).imp fun m hm=>⟨hm.1, fun x hb=>(jc hil).2 (.inr (hm.2 x hb))⟩⟩
  ·rcases I.own x (hsub x hx) with hx | ⟨j, hj, hnj, hcj, hxj⟩
   ·exact .inl hx
   by_cases hxX:X x
   ·exact .inl hxX
   refine .inr ⟨j, hj, fun hl=>?_, hcj, hxj⟩
   rcases (jc hil).1 hl with e | hl
   ·subst e; exact hxX (hself x hx hxj)
   ·exact hnj hl
  ·exact I.inj j k x hj hk (fun hl=>hnj ((jc hil).2 (.inr hl))) (fun hl=>hnk ((jc hil).2 (.inr hl))) hcj hck hxj hxk
  ·rcases (jc hil).1 hj with rfl | hj
   ·exact hi
   ·exact I.sub j hj
  ·rcases (jc hil).1 hj with rfl | hj
   ·rw [ho] at hoj; cases hoj; exact (jc hil).2 (.inr (hpre e he hb))
   ·exact (jc hil).2 (.inr (I.clL j hj oj hoj e he hb))
  ·refine fr_put hdsz (fun _ _=>rfl) hd hv fun hne=>(I.fr t fun j hj hnj oj hoj=>?_).mono hio hok
   by_cases hji:j = i
   ·subst hji; rw [ho] at hoj; cases hoj; exact hne
   ·exact ht j hj (fun hl=>((jc hil).1 hl).elim hji hnj) oj hoj
  ·have hnj':¬ isL listed j:=fun hl=>hnj ((jc hil).2 (.inr hl))
   have hji:j ≠ i:=fun e=>hnj ((jc hil).2 (.inl e))
   refine ⟨(I.pend j hj hnj' oj hoj).1, fun hc=>((I.pend j hj hnj' oj hoj).2 hc).looks (fun _ _=>rfl) (fun _ _=>rfl) (fun x hx hy=>⟨hkeep j hj hji hnj' (by rw [zbh hoj]; exact hc) x hx hy.1, hy.2⟩) (fun _ _ _=>rfl)⟩
 by_cases h3:cls T o = 3
 ·rcases (I.pend i hi hn o ho).2 h3 with ⟨id, h0, hw, ⟨hy, hyn⟩, cs, m, hg, hfl, hd, hall⟩ | ⟨h0, hw, hd⟩
  ·-- it is made now
   have hidX:¬ X id:=fun e=>by have:=(I.x0 _ e).1; omega
   rw [if_pos (I.word hT ho hn hpre hw)]
   have hs':zi T zep (seen ops o ρ) o K0 E0 h = some (mvV m h.next, h.push (.cells cs true)):=by
    rw [← yi (ops:=ops) (ρ:=ρ) o (fun t ht=>(zgc ht).symm), hall]; rfl
   have hids:=made_ids (ι:=ι) (X:=Y) hTab h3 (fun x=>zhd I.R (zgg hlook) x) hs'
   refine op_wpX (fun hc=>hn (I.hp i hi (hci.trans hc))) hTab I.R I.lt (fun x=>zhd I.R (zgg hlook) x) hs' fun ι' x w' R' W' hv=>?_
   have R'':=I.R.claim (id:=id) hy I.lt hg hids R' W'.ext
   have W'':=I.W.claim I.xy (id:=id) hy I.lt hyn hg I.R.dom W'
   refine fin (v:=mvV m id) R'' W'' (fun x hx=>⟨I.xy x hx, fun e=>hidX (e ▸ hx)⟩) (fun x hx=>hx.1) (fun j hj hji hnj hcj x hx hyx=>⟨hyx, fun e=>hji ?_⟩) (fun x hx e=>?_) (fun k hk=>?_) ?_ hd
   ·subst e; exact I.inj j i x hj hi hnj hn hcj (by rw [hci]; exact h3) hx h0
   ·rw [h0] at e; cases e; exact absurd rfl hx.2
   ·show (if k = id then ι' h.next else ι' k) = ι k
    rw [if_neg (fun (e:k = id)=>hk.2 (by rw [e]; exact hy))]
    exact W'.ext k hk.1
   ·have hidok:id < h.next ∧ ¬ (Y id ∧ id ≠ id):=⟨I.lt id hy, fun e=>e.2 rfl⟩
    cases m with
    | none=>
     refine ⟨hidok, ?_⟩
     rw [hv.2]
     simp [Ad.to]
    | some lc=>
     obtain ⟨l, c⟩:=lc
     obtain ⟨_, b, c', hx, hb, hl, hc⟩:=hv
     refine ⟨hidok, b, c', hx, ?_, hl, hc⟩
     rcases hb with hb | hb
     ·exact .inl hb
     ·refine .inr ?_
      rw [hb]
      show Ad.to ι' ⟨h.next, 0⟩ = Ad.to _ ⟨id, 0⟩
      simp [Ad.to]
  ·rw [if_neg (by rw [I.word hT ho hn hpre hw]; simp)]
   exact fin (v:=.tuple []) I.R I.W I.xy (fun x hx=>hx) (fun j _ _ _ _ x _ hy=>hy) (fun x _ e=>by rw [h0] at e; cases e) (fun _ _=>rfl) ⟨#[], rfl, trivial⟩ hd
 ·-- numbers are told of for slices alone
  have fin':∀ {ι':Io} {w':World} {v:V} {x:Value}, HR T base w0 Y ι' h w'->Went Y ι h w ι' h w'->VR ι' (okOf h Y) v x->(∀ d, o.dst = some d->ρ d = v)->next (a.put o.dst x) w':=by
   intro ι' w' v x R' W' hv hd
   have hok:∀ k, okOf h Y k->okOf h Y k:=fun k hk=>hk
   refine hnext Y ι' _ w' ⟨I.ev, I.chk, R', I.W.trans I.xy W', by rw [zct]; exact I.sz, fun p hp=>by rw [zbx (fun e=>(hT.fit i o _ ho e).2 p hp rfl)]; exact I.kp p hp, by rw [zhs]; exact I.df, I.xy, I.x0, I.lt, fun x hx=>?_, fun j k x hj hk hnj hnk hcj hck hxj hxk=>?_,
    fun j hj=>?_, fun j hj hc=>(jc hil).2 (.inr (I.hp j hj hc)), I.clD, fun j hj oj hoj e he hb=>?_, fun t ht=>?_, fun j hj hnj oj hoj=>?_, I.sp, fun j hj hnj=>(I.nx j hj fun hl=>hnj ((jc hil).2 (.inr hl))).imp fun m hm=>⟨hm.1, fun x hb=>(jc hil).2 (.inr (hm.2 x hb))⟩⟩
   ·rcases I.own x hx with hx | ⟨j, hj, hnj, hcj, hxj⟩
    ·exact .inl hx
    refine .inr ⟨j, hj, fun hl=>?_, hcj, hxj⟩
    rcases (jc hil).1 hl with e | hl
    ·subst e; rw [hci] at hcj; exact h3 hcj
    ·exact hnj hl
   ·exact I.inj j k x hj hk (fun hl=>hnj ((jc hil).2 (.inr hl))) (fun hl=>hnk ((jc hil).2 (.inr hl))) hcj hck hxj hxk
   ·rcases (jc hil).1 hj with rfl | hj
    ·exact hi
    ·exact I.sub j hj
   ·rcases (jc hil).1 hj with rfl | hj
    ·rw [ho] at hoj; cases hoj; exact (jc hil).2 (.inr (hpre e he hb))
    ·exact (jc hil).2 (.inr (I.clL j hj oj hoj e he hb))
   ·refine fr_put hdsz (fun _ _=>rfl) hd hv fun hne=>(I.fr t fun j hj hnj oj hoj=>?_).mono (fun k hk=>W'.ext k hk.1) hok
    by_cases hji:j = i
    ·subst hji; rw [ho] at hoj; cases hoj; exact hne
    ·exact ht j hj (fun hl=>((jc hil).1 hl).elim hji hnj) oj hoj
   ·exact I.pend j hj (fun hl=>hnj ((jc hil).2 (.inr hl))) oj hoj
  rcases (I.pend i hi hn o ho).1 h3 with ⟨hw, v, hd, hs⟩ | ⟨hw, hd⟩
  ·rw [if_pos (I.word hT ho hn hpre hw)]
   have hs':zi T zep (seen ops o ρ) o K0 E0 h = some (v, h):=by rw [← hs, yi (ops:=ops) o (fun t ht=>zgc ht)]
   refine op_wpX (fun hc=>hn (I.hp i hi (hci.trans hc))) hTab I.R I.lt (fun x=>zhd I.R (zgg hlook) x) hs' fun ι' x w' R' W' hv=>fin' R' W' hv hd
  ·rw [if_neg (by rw [I.word hT ho hn hpre hw]; simp)]
   exact fin' (v:=.tuple []) I.R (Went.refl Y ι h w) ⟨#[], rfl, trivial⟩ hd
theorem Inv.lft (I:Inv P T base w0 X Y idf call out N dfs ι₀ h₀ w₁ ops ord K E listed ι h w a pl done ρ):Lft Y h:=by
 intro x hx
 refine ⟨I.lt x hx, fun o v hv=>?_⟩
 rcases I.own x hx with hx | ⟨j, hj, hnj, hcj, hid⟩
 ·exact ((I.x0.of I.W.next I.W.out) x hx).2 o v hv
 ·obtain ⟨oj, hoj⟩:=zdz hcj
  rcases (I.pend j hj hnj oj hoj).2 (by rw [← zbh hoj]; exact hcj) with ⟨x', h0, _, _, cs, m, hg, hf, _⟩ | ⟨h0, _⟩
  ·rw [hid] at h0
   cases h0
   unfold H.cell at hv
   rw [hg] at hv
   exact (List.all_eq_true.1 hf) v (List.mem_of_getElem? hv)
  ·rw [hid] at h0; cases h0
theorem Inv.one_cell (I:Inv P T base w0 X Y idf call out N dfs ι₀ h₀ w₁ ops ord K E listed ι h w a pl done ρ) {q:Ad} {v:V} (hx:h.cell q = some v):oneV v = true:=by
 by_cases hy:Y q.id
 ·exact (I.lft q.id hy).2 q.off v hx
 ·exact (I.R.cell hy hx).choose_spec.2.2
theorem app_noE {T:Tab} {call:Call α} {ρ:Frame} {o:Oper} {KK E:V->M α} {h:H} (hA:isApp o = true):zi T call ρ o KK E h = zi T call ρ o KK (fun _=>fail) h:=by
 unfold isApp at hA
 cases ho:o.op <;> rw [ho] at hA <;> first | (cases hA; done) | (simp only [zi, ho]; done) | skip
 case call c=>
  obtain ⟨callee, args, ats⟩:=c
  cases callee <;> first | (cases hA; done) | (simp only [zi, ho]; done)
theorem Inv.step_heap (hTab:TabOk P T) (hC:jb P T base w0 call) (hT:TmpsOk T N ops ord) (hsz:listed.size = ops.size) {i:Nat} {d0:Do} {b0:Bool} (hd0:d0.at = some (i, b0)) (I:Inv P T base w0 X Y idf call out N dfs ι₀ h₀ w₁ ops ord K E listed ι h w a (d0 :: pl) done ρ) {o:Oper} (ho:ops[i]? = some o) (hn:¬ isL listed i)
  (hpre:∀ e ∈ o.after, Region.binds .any e = true->isL listed e.on) (hcl:yj T ops i = 2) (hnext:∀ h' ι' a' w' ρ', Inv P T base w0 X Y idf call out N dfs ι₀ h₀ w₁ ops ord K E (listed.setIfInBounds i true) ι' h' w' a' pl (i :: done) ρ'->next a' w')
  (hp:∀ v h' ι' x a' w', E v h' = some out->St T base w0 X N dfs ι₀ h₀ w₁ ι' h' w' a'->VR ι' (okOf h' X) v x->Q (.panic [{ v:=x, recovered:=false }]) a' w') :
  if Region.wanted o (yielded ops a.tmps) then o.wp P a w next Q else next (a.put o.dst undef) w:=by
 have hil:i < listed.size:=by rw [hsz]; exact jn ho
 have hlook:=I.looked hT ho hn hpre
 have hdsz:∀ d, o.dst = some d->d < a.tmps.size:=fun d hd=>by rw [I.sz]; exact (hT.fit i o d ho hd).1
 obtain ⟨o', ho', hnd, hpre', _, hlk, hchk⟩:=ye hd0 I.chk
 rw [ho] at ho'
 cases ho'
 obtain ⟨o', ho', hev⟩:=zii hd0 I.ev
 rw [ho] at ho'
 cases ho'
 have hcls:cls T o = 2:=by unfold yj at hcl; rw [ho] at hcl; exact hcl
 have hap:∀ j ∈ done, ¬ isL listed j->∀ oj, ops[j]? = some oj->(∀ t ∈ oj.looksAt ops, o.dst ≠ some t) ∧ ∀ d, oj.dst = some d->o.dst ≠ some d:=by
  intro j hj hnj oj hoj
  refine ⟨fun t ht hd=>hnd ?_, fun d hd hd'=>hnd ?_⟩
  ·rcases hT.look i j o oj t ho hoj hd ht with hb | ⟨x, hx2, hx3, hx4⟩ | ⟨hb1, hb2⟩
   ·exact zck (S:=fun i=>i ∈ done) I.clD hb hj
   ·exfalso
    rcases hx4 with rfl | hx4
    ·exact hnj (yq (S:=isL listed) I.clL ho hpre hx3)
    ·have hxd:x ∈ done:=yq (S:=fun i=>i ∈ done) I.clD ho hpre' hx4
     exact hnj (zck (S:=isL listed) I.clL hx3 (I.hp x hxd hx2))
   ·exact absurd (yq (S:=isL listed) I.clL ho hpre hb1) hnj
  ·have:=hT.one j i oj o d hoj ho hd hd'
   subst this; exact hj
 have Ist:St T base w0 Y N dfs ι h w ι h w a:=⟨I.R, Went.refl Y ι h w, I.lft, I.sz, I.kp, I.df⟩
 have fin:∀ {h':H} {ι':Io} {w':World} {v:V} {x:Value}, jw T call ops pl (ρ.put o.dst v) K E h' = some out->St T base w0 Y N dfs ι h w ι' h' w' (a.put o.dst x)->Went Y ι h w ι' h' w' ->
   VR ι' (okOf h' Y) v x->(∀ j ∈ done, ¬ isL listed j->∀ oj, ops[j]? = some oj->(cls T oj ≠ 3->Pend T ops oj (ρ.put o.dst v) h') ∧ (cls T oj = 3->zhe T ops oj (ρ.put o.dst v) h' (fun x=>Y x ∧ h₀.next≤x) (idf j)))->next (a.put o.dst x) w':=by
  intro h' ι' w' v x e S' W' hv hpd
  refine hnext h' ι' _ w' _ ⟨e, hchk, S'.R, I.W.trans I.xy W', S'.sz, S'.kp, S'.df,
   I.xy, I.x0, fun x hx=>Nat.lt_of_lt_of_le (I.lt x hx) W'.next, fun x hx=>?_, fun j k x hj hk hnj hnk hcj hck hxj hxk=>?_, fun j hj=>?_, fun j hj hc=>?_, fun j hj oj hoj e he hb=>?_, fun j hj oj hoj e he hb=>?_, fun t ht=>?_, fun j hj hnj oj hoj=>?_, by rw [I.sp, zlm hd0]; simp, fun j hj hnj=>?_⟩
  ·rcases I.own x hx with hx | ⟨j, hj, hnj, hcj, hx⟩
   ·exact .inl hx
   refine .inr ⟨j, List.mem_cons_of_mem _ hj, fun hl=>?_, hcj, hx⟩
   rcases (jc hil).1 hl with rfl | hl
   ·exact hnd hj
   ·exact hnj hl
  ·cases hj with
   | head=>rw [hcl] at hcj; cases hcj
   | tail _ hj=>cases hk with
    | head=>rw [hcl] at hck; cases hck
    | tail _ hk=>exact I.inj j k x hj hk (fun hl=>hnj ((jc hil).2 (.inr hl))) (fun hl=>hnk ((jc hil).2 (.inr hl))) hcj hck hxj hxk
  ·rcases (jc hil).1 hj with rfl | hj
   ·exact List.mem_cons_self
   ·exact List.mem_cons_of_mem _ (I.sub j hj)
  ·cases hj with
   | head=>exact (jc hil).2 (.inl rfl)
   | tail _ hj=>exact (jc hil).2 (.inr (I.hp j hj hc))
  ·cases hj with
   | head=>rw [ho] at hoj; cases hoj; exact List.mem_cons_of_mem _ (hpre' e he hb)
   | tail _ hj=>exact List.mem_cons_of_mem _ (I.clD j hj oj hoj e he hb)
  ·rcases (jc hil).1 hj with rfl | hj
   ·rw [ho] at hoj; cases hoj; exact (jc hil).2 (.inr (hpre e he hb))
   ·exact (jc hil).2 (.inr (I.clL j hj oj hoj e he hb))
  ·refine fr_put hdsz (fun t h=>yf h) (fun d hd=>by rw [hd]; exact zgw) hv fun hne=>(I.fr t fun j hj hnj oj hoj=>?_).mono W'.io W'.ok
   have hji:j ≠ i:=fun e=>hnd (e ▸ hj)
   exact ht j (List.mem_cons_of_mem _ hj) (fun hl=>((jc hil).1 hl).elim hji hnj) oj hoj
  ·cases hj with
   | head=>exact absurd ((jc hil).2 (.inl rfl)) hnj
   | tail _ hj=>exact hpd j hj (fun hl=>hnj ((jc hil).2 (.inr hl))) oj hoj
  ·cases hj with
   | head=>exact absurd ((jc hil).2 (.inl rfl)) hnj
   | tail _ hj=>exact (I.nx j hj fun hl=>hnj ((jc hil).2 (.inr hl))).imp fun m hm=>⟨hm.1, fun x hb=>(jc hil).2 (.inr (hm.2 x hb))⟩
 rcases hev with ⟨hw, e⟩ | ⟨hw, e⟩
 ·rw [if_pos (I.word hT ho hn hpre hw)]
  -- where it may panic, nothing that was told of is lacking
  have hE:∃ E':V->M α, zi T call (seen ops o ρ) o (fun v=>jw T call ops pl (ρ.put o.dst v) K E) E' h = some out ∧ ((E' = fun _=>fail) ∨ (E' = E ∧ ∀ x, Y x->X x)):=by
   rw [yi (ops:=ops) (ρ2:=seen ops o ρ) o (fun t ht=>(zgc ht).symm)] at e
   by_cases hA:isApp o = true
   ·exact ⟨_, by rw [← app_noE hA]; exact e, .inl rfl⟩
   cases hb:b0 with
   | true=>exact ⟨_, e, .inl (by rw [hb]; rfl)⟩
   | false=>
    rw [hb] at e
    refine ⟨E, e, .inr ⟨rfl, fun x hx=>?_⟩⟩
    rcases I.own x hx with hx | ⟨j, hj, hnj, hcj, _⟩
    ·exact hx
    ·refine absurd (yq (S:=isL listed) I.clL ho hpre (zay (((hlk hcls j hj).2 hcj).resolve_right ?_))) hnj
     rw [hb]
     rintro (hx | hx)
     ·exact hA hx
     ·cases hx
  obtain ⟨E', e, hE⟩:=hE
  refine op_wp hTab hC (fun d hd=>hT.fit i o d ho hd) Ist (fun x=>zhd I.R (zgg hlook) x) e (fun v h' ι' x w' e' S' W' hv=>fin e' S' W' hv fun j hj hnj oj hoj=>?_) (fun v h' ι' x w' e' S' hv=>?_)
  rotate_left
  ·rcases hE with rfl | ⟨rfl, hYX⟩
   ·cases e'
   ·obtain rfl:Y = X:=funext fun x=>propext ⟨hYX x, I.xy x⟩
    exact hp v h' ι' x a w' e' ⟨S'.R, (I.W.trans I.xy S'.W).to, I.x0, S'.sz, S'.kp, S'.df⟩ hv
  obtain ⟨ha1, ha2⟩:=hap j hj hnj oj hoj
  have hl:∀ t ∈ oj.looksAt ops, ρ t = (ρ.put o.dst v) t:=fun t ht=>(yf (ha1 t ht)).symm
  have hdd:∀ d, oj.dst = some d->ρ d = (ρ.put o.dst v) d:=fun d hd=>(yf (ha2 d hd)).symm
  refine ⟨fun hc3=>?_, fun hc3=>((I.pend j hj hnj oj hoj).2 hc3).looks hl hdd (fun _ _ h=>h) (fun x _ hy=>W'.out x hy.1)⟩
  rcases (I.pend j hj hnj oj hoj).1 hc3 with ⟨hwj, vj, hdj, hsj⟩ | ⟨hwj, hdj⟩
  ·refine .inl ⟨by rw [← jx oj hl]; exact hwj, vj, fun d hd=>by rw [← hdd d hd]; exact hdj d hd, ?_⟩
   rw [← yi oj hl]
   have hcj:yj T ops j ≠ 2:=fun hc=>hnj (I.hp j hj hc)
   cases hpj:zbd T oj.op with
   | true=>
    obtain ⟨v', h1, h2⟩:=zdv hpj hsj
    cases h1
    exact h2 _ _ _ _ _
   | false=>
    have hc1:yj T ops j = 1:=by
     rw [zbh hoj] at hcj ⊢
     exact zhp hcj hc3 hpj
    have hlj:j ∈ zde pl:=by
     rcases (hlk hcls j hj).1 hc1 with hb | hb
     ·exact absurd (yq (S:=isL listed) I.clL ho hpre (zay hb)) hnj
     ·exact hb
    obtain ⟨oj', hoj', t, x', d, hop, hd, hf⟩:=zeh e' j hlj
    rw [hoj] at hoj'
    cases hoj'
    obtain ⟨v', p, ti, vs, hp1, hti, hld, hv', h1, h2⟩:=zhv hop hsj
    cases h1
    have hρd:(ρ.put o.dst v) d = vj:=by rw [← hdd d hd]; exact hdj d hd
    -- what was read is one cell's, or an aggregate
    have hone:ti.agg = false->oneV vj = true:=by
     intro ha
     rw [ha] at hv'
     simp only [Bool.false_eq_true, if_false] at hv'
     subst hv'
     have h3:=hld _ (fun vs h=>(some vs:Option (List V)))
     have h4:∃ K':List V->M (List V), yz p 0 ti.sh K' h = some [vj] ∧ K' = fun vs _=>some vs:=⟨_, h3, rfl⟩
     obtain ⟨K', h5, hK⟩:=h4
     obtain ⟨us, hl1, hl2, hl3⟩:=zdl h5
     rw [hK] at hl3
     cases hl3
     have hx:=hl2 0 (by rw [← hl1]; simp)
     simp only [List.getElem?_cons_zero] at hx
     exact I.one_cell hx
    rcases hf with hu | ⟨p2, ti2, hp2, hti2, hl2⟩
    ·exfalso
     rw [hρd] at hu
     subst hu
     cases ha:ti.agg with
     | true=>rw [ha] at hv'; simp at hv'
     | false=>have:=hone ha; simp [oneV] at this
    ·have e1:Go.Ab.ev T (ρ.put o.dst v) x' = Go.Ab.ev T ρ x':=(zkt fun t' ht=>hl t' (zdm (by rw [hop]; simp [Op.operands]; exact ht.symm))).symm
     rw [e1, hp1] at hp2
     cases hp2
     rw [hti] at hti2
     cases hti2
     simp only [zi, hop, hp1, hti]
     show yz p 0 ti.sh (fun cs=>Go.Ab.mk ti.agg cs K0) h' = _
     rw [hl2, hρd]
     cases ha:ti.agg with
     | true=>
      rw [ha] at hv'
      simp only [if_true] at hv'
      subst hv'
      rfl
     | false=>
      have h1:=hone ha
      have:vj.cells = [vj]:=by cases vj <;> first | rfl | (simp [oneV] at h1)
      rw [this]
      rfl
  ·exact .inr ⟨by rw [← jx oj hl]; exact hwj, fun d hd=>by rw [← hdd d hd]; exact hdj d hd⟩
 ·rw [if_neg (by rw [I.word hT ho hn hpre hw]; simp)]
  refine fin e (Ist.go (fun d hd=>hT.fit i o d ho hd) I.R (Went.refl Y ι h w)) (Went.refl Y ι h w) ⟨#[], rfl, trivial⟩ fun j hj hnj oj hoj=>?_
  obtain ⟨ha1, ha2⟩:=hap j hj hnj oj hoj
  have hl:∀ t ∈ oj.looksAt ops, ρ t = (ρ.put o.dst (.tuple [])) t:=fun t ht=>(yf (ha1 t ht)).symm
  have hdd:∀ d, oj.dst = some d->ρ d = (ρ.put o.dst (.tuple [])) d:=fun d hd=>(yf (ha2 d hd)).symm
  exact ⟨fun hc=>((I.pend j hj hnj oj hoj).1 hc).looks hl hdd, fun hc=>((I.pend j hj hnj oj hoj).2 hc).looks hl hdd (fun _ _ h=>h) (fun _ _ _=>rfl)⟩
end
def unl (n:Nat) (listed:Array Bool):Nat:=(List.range n).countP fun i=>!listed.getD i false
theorem zin {f g:Nat->Bool} {i:Nat} (hf:f i = true) (hg:g i = false) (h:∀ j, j ≠ i->g j = f j):∀ n, i < n->(List.range n).countP f = (List.range n).countP g + 1
 | 0, hi=>by omega
 | n + 1, hi=>by
  rw [List.range_succ, List.countP_append, List.countP_append]
  by_cases e:i = n
  ·subst e
   have:(List.range i).countP f = (List.range i).countP g:=List.countP_congr fun j hj=>by
    rw [h j (by have:=List.mem_range.1 hj; omega)]
   rw [this]
   simp [hf, hg]
  ·rw [zin hf hg h n (by omega)]
   have:g n = f n:=h n (fun e'=>e e'.symm)
   simp only [List.countP_cons, List.countP_nil, this]
   omega
theorem unl_set {n:Nat} {listed:Array Bool} {i:Nat} (hsz:listed.size = n) (hi:i < n) (hn:¬ isL listed i):unl n listed = unl n (listed.setIfInBounds i true) + 1:=by
 have hil:i < listed.size:=by omega
 refine zin (i:=i) ?_ ?_ (fun j hj=>?_) n hi
 ·simpa [isL] using hn
 ·have:isL (listed.setIfInBounds i true) i:=(jc hil).2 (.inl rfl)
  unfold isL at this
  rw [this]; rfl
 ·rw [getD_set_ne false (Ne.symm hj)]
theorem unl_zero {n:Nat} {listed:Array Bool} (h:unl n listed = 0):∀ i, i < n->isL listed i:=by
 intro i hi
 have:=(List.countP_eq_zero.1 h) i (List.mem_range.2 hi)
 simpa [isL] using this
theorem zmx {ops:Array Oper} (hE:zef ops = true) {listed:Array Bool} (hsz:listed.size = ops.size) (hr:Region.ready .any ops listed = []):∀ i, i < ops.size->isL listed i:=by
 intro i
 induction i using Nat.strongRecOn with
 | _ i ih=>
  intro hi
  by_cases hl:isL listed i
  ·exact hl
  ·exfalso
   have hm:i ∈ Region.ready .any ops listed:=mem_ready.2 ⟨by
    unfold isL at hl
    have:i < listed.size:=by omega
    simp [this] at hl ⊢
    exact hl, ops[i], by simp [hi], fun e he hb=>ih e.on (zkq hE (by simp [hi]) he hb) (Nat.lt_trans (zkq hE (by simp [hi]:ops[i]? = some ops[i]) he hb) hi)⟩
   rw [hr] at hm
   cases hm
section
variable {α:Type} [Subsingleton α] {P:Program} {T:Tab} {base:Nat} {w0:World} {X:Nat->Prop} {call:Call α} {out:α} {N:Lot} {dfs:List Deferred} {ι₀:Io} {h₀:H} {w₁:World}
 {ops:Array Oper} {ord:List Nat} {K:Frame->M α} {E:V->M α} {Q:Exit->Act->World->Prop}
theorem zhi (T:Tab) (call:Call α) (K:Frame->M α) (E:V->M α) (ρ:Frame) (h:H) (out:α):∀ (pl:List Do) (done:List Nat), jw T call ops pl ρ K E h = some out ->
  zaq T ops (befs ops.toList []) pl done = true->(∀ i, i < ops.size->i ∈ done)->K ρ h = some out
 | [], _, e, _, _=>e
 | .op j :: pl, done, e, hc, hd=>by
  obtain ⟨o, ho, hnd, _⟩:=ye rfl hc
  exact absurd (hd j (jn ho)) hnd
 | .np j :: pl, done, e, hc, hd=>by
  obtain ⟨o, ho, hnd, _⟩:=ye rfl hc
  exact absurd (hd j (jn ho)) hnd
 | .look j :: pl, done, e, hc, hd=>zhi T call K E ρ h out pl done (zcv e).2 hc hd
 | .expect _ _ :: pl, done, e, hc, hd=>zhi T call K E ρ h out pl done (zcb e) hc hd
theorem drawn_any (hTab:TabOk P T) (hC:jb P T base w0 call) (hE:zef ops = true) (hT:TmpsOk T N ops ord)
  (hn:∀ ρ' h' ι' a' w', K ρ' h' = some out->St T base w0 X N dfs ι₀ h₀ w₁ ι' h' w' a'->FR ι' (okOf h' X) ρ' a'->Q .normal a' w')
  (hp:∀ v h' ι' x a' w', E v h' = some out->St T base w0 X N dfs ι₀ h₀ w₁ ι' h' w' a'->VR ι' (okOf h' X) v x->Q (.panic [{ v:=x, recovered:=false }]) a' w') :
  ∀ (fuel:Nat) (listed:Array Bool) (ι:Io) (h:H) (a:Act) (w:World) (pl:List Do) (done:List Nat) (ρ:Frame) (Y:Nat->Prop) (idf:Nat->Option Nat), listed.size = ops.size->unl ops.size listed = fuel ->
   Inv P T base w0 X Y idf call out N dfs ι₀ h₀ w₁ ops ord K E listed ι h w a pl done ρ->wpAny P .any ops Q fuel listed a w:=by
 have stop:∀ {listed:Array Bool} {ι:Io} {h:H} {a:Act} {w:World} {pl:List Do} {done:List Nat} {ρ:Frame} {Y:Nat->Prop} {idf:Nat->Option Nat}, (∀ i, i < ops.size->isL listed i) ->
   Inv P T base w0 X Y idf call out N dfs ι₀ h₀ w₁ ops ord K E listed ι h w a pl done ρ->Q .normal a w:=by
  intro listed ι h a w pl done ρ Y idf hall I
  have hYX:Y = X:=funext fun x=>propext ⟨fun hx=>(by rcases I.own x hx with hx | ⟨j, hj, hnj, hcj, _⟩; exact hx; obtain ⟨o, ho⟩:=zdz hcj; exact absurd (hall j (jn ho)) hnj), I.xy x⟩
  subst hYX
  refine hn ρ h ι a w (zhi T call K E ρ h out pl done I.ev I.chk fun i hi=>I.sub i (hall i hi)) ⟨I.R, I.W.to, I.x0, I.sz, I.kp, I.df⟩ fun t=>I.fr t fun i hi hnl o ho=>absurd (hall i (jn ho)) hnl
 intro fuel
 induction fuel with
 | zero=>
  intro listed ι h a w pl done ρ Y idf hsz hu I
  have hall:=unl_zero hu
  refine ⟨?_, stop hall I⟩
  cases hr:Region.ready .any ops listed with
  | nil=>rfl
  | cons i l=>
   have hm:i ∈ Region.ready .any ops listed:=by rw [hr]; exact List.mem_cons_self
   obtain ⟨h1, o, ho, _⟩:=mem_ready.1 hm
   have:=hall i (jn ho)
   have hil:i < listed.size:=by rw [hsz]; exact jn ho
   unfold isL at this
   simp [hil] at h1 this
   rw [this] at h1; cases h1
 | succ fuel ih=>
  intro listed ι h a w pl done ρ Y idf hsz hu I
  refine ⟨fun hr=>stop (zmx hE hsz hr) I, fun i hm=>?_⟩
  obtain ⟨h1, o, ho, hpre'⟩:=mem_ready.1 hm
  have hil:i < listed.size:=by rw [hsz]; exact jn ho
  have hnl:¬ isL listed i:=by
   unfold isL
   simp [hil] at h1 ⊢
   exact h1
  have hpre:∀ e ∈ o.after, Region.binds .any e = true->isL listed e.on:=hpre'
  have hsz':(listed.setIfInBounds i true).size = ops.size:=by simpa using hsz
  have hu':unl ops.size (listed.setIfInBounds i true) = fuel:=by
   have:=unl_set hsz (jn ho) hnl
   omega
  have goal:(if Region.wanted o (yielded ops a.tmps) then o.wp P a w (wpAny P .any ops Q fuel (listed.setIfInBounds i true)) Q else wpAny P .any ops Q fuel (listed.setIfInBounds i true) (a.put o.dst undef) w) ->
    wpOp P ops Q i (wpAny P .any ops Q fuel (listed.setIfInBounds i true)) a w:=by
   intro hg
   unfold wpOp
   rw [ho]
   dsimp only
   split
   ·rename_i hw; rw [if_pos hw] at hg; exact .inl hg
   ·rename_i hw; rw [if_neg hw] at hg; exact hg
  apply goal
  by_cases hd:i ∈ done
  ·exact I.step_pending hTab hT hsz ho hnl hpre hd fun Y' ι' a' w' I'=>ih _ ι' h a' w' pl done ρ Y' idf hsz' hu' I'
  ·obtain ⟨pl', done', ρ', h', Y', idf', I', hd' | ⟨hd', hcl, d1, b1, pl'', hd1, rfl⟩⟩:=Inv.reach hT ho hnl hpre pl done ρ h Y idf I hd
   ·exact I'.step_pending hTab hT hsz ho hnl hpre hd' fun Y'' ι' a' w' I''=>ih _ ι' h' a' w' pl' done' ρ' Y'' idf' hsz' hu' I''
   ·exact I'.step_heap hTab hC hT hsz hd1 ho hnl hpre hcl (fun h'' ι' a' w' ρ'' I''=>ih _ ι' h'' a' w' pl'' (i :: done') ρ'' Y' idf' hsz' hu' I'') hp
theorem drawn_ok (hm:P.follows .mixedOrders = true) (hTab:TabOk P T) (hC:jb P T base w0 call) {plan:List Do} (hchk:zkj T N.n ops plan = true) (hkp:zer (N.kp.map (·.1)) ops = true) {id:Nat} {ρ:Frame} {h:H} {ι:Io} {a:Act} {w:World}
  (S:St T base w0 X N dfs ι₀ h₀ w₁ ι h w a) (F:FR ι (okOf h X) ρ a) (e:jw T call ops plan ρ K E h = some out)
  (hn:∀ ρ' h' ι' a' w', K ρ' h' = some out->St T base w0 X N dfs ι₀ h₀ w₁ ι' h' w' a'->FR ι' (okOf h' X) ρ' a'->Q .normal a' w')
  (hp:∀ v h' ι' x a' w', E v h' = some out->St T base w0 X N dfs ι₀ h₀ w₁ ι' h' w' a'->VR ι' (okOf h' X) v x->Q (.panic [{ v:=x, recovered:=false }]) a' w') :
  (Code.region id ops true).wp P Q a w:=by
 unfold zkj at hchk
 simp only [Bool.and_eq_true] at hchk
 obtain ⟨⟨hE, hT⟩, hG⟩:=hchk
 have hT:=tmps_ok hT hkp
 refine wp_region_draw fun t=>?_
 have hs:Region.schedule (P.follows .mixedOrders) ops t = Region.linearise .any ops t:=by
  unfold Region.schedule
  rw [hm]
  rfl
 rw [hs]
 refine wpAny_sound ops.size t _ a _ (drawn_any hTab hC hE hT hn hp ops.size (Array.replicate ops.size false) ι h a _ plan [] ρ X (fun _=>none) (by simp) ?_ ?_)
 ·unfold unl
  have:∀ i ∈ List.range ops.size, (!(Array.replicate ops.size false).getD i false) = true:=by
   intro i hi
   have:=List.mem_range.1 hi
   simp [this]
  rw [List.countP_eq_length.2 this, List.length_range]
 ·have hno:∀ i, ¬ isL (Array.replicate ops.size false) i:=by
   intro i hi
   unfold isL at hi
   simp only [Array.getD_eq_getD_getElem?] at hi
   rw [Array.getElem?_replicate] at hi
   split at hi <;> cases hi
  have S':=S.go' (w':=w.drew) S.R.drew (Went.drew X ι h w)
  refine ⟨e, hG, S'.R, WentX.of S'.W, S'.sz, S'.kp, S'.df, fun x hx=>hx, S'.x0, S'.xlt, fun x hx=>.inl hx, fun _ _ _ hi=>(by cases hi), fun i hi=>absurd hi (hno i), fun i hi=>(by cases hi), fun i hi=>(by cases hi), fun i hi=>absurd hi (hno i), fun t _=>F t, fun i hi=>(by cases hi), rfl, fun j hj=>(by cases hj)⟩
end
end Go.Ab
namespace Go.Ab
theorem zjt {P:Program} {c:Code} {Q:Exit->Act->World->Prop} (J:Nat->Act->World->Prop)
  (round:∀ j a w, J j a w->∃ j', j = j' + 1 ∧ c.wp P (Exit.then (J j') Q) a w) {n:Nat} {a:Act} {w:World} (h₀:J n a w):(Code.loop c).wp P Q a w:=by
 intro b k cs
 have key:∀ n a w, J n a w->∃ e a' w', Q e a' w' ∧ Arrives P (lone (b.at a (.code c :: .inLoop c :: k)) cs w) b k cs e a' w':=by
  intro n
  induction n with
  | zero=>
   intro a w hJ
   obtain ⟨j', h, _⟩:=round 0 a w hJ
   cases h
  | succ n ih=>
   intro a w hJ
   obtain ⟨j', h, hr⟩:=round (n + 1) a w hJ
   cases h
   obtain ⟨e, a₁, w₁, hq, harr⟩:=hr b (.inLoop c :: k) cs
   cases e with
   | normal=>
    obtain ⟨e₂, a₂, w₂, hq₂, harr₂⟩:=ih a₁ w₁ hq
    exact ⟨e₂, a₂, w₂, hq₂, .of_steps (Steps.trans harr (.one step_inLoop)) harr₂⟩
   | exit id=>exact ⟨_, a₁, w₁, hq, .pass (x:=.inLoop c) rfl (fun _ _=>.inl (by simp)) harr⟩
   | goto l=>exact ⟨_, a₁, w₁, hq, .pass (x:=.inLoop c) rfl (fun _ _=>.inl (by simp)) harr⟩
   | ret=>exact ⟨_, a₁, w₁, hq, .pass (x:=.inLoop c) rfl (fun _ _=>.inl (by simp)) harr⟩
   | panic ch=>exact ⟨_, a₁, w₁, hq, .pass (x:=.inLoop c) rfl (fun _ _=>.inl (by simp)) harr⟩
   | outgrown=>exact ⟨_, a₁, w₁, hq, .pass (x:=.inLoop c) rfl (fun _ _=>.inl (by simp)) harr⟩
 obtain ⟨e, a', w', hq, harr⟩:=key n a w h₀
 exact ⟨e, a', w', hq, .of_steps (.one step_loop) harr⟩
def fitsB (N:Nat) (ops:Array Oper):Bool:=ops.toList.all fun o=>match o.dst with | some d=>Nat.blt d N | none=>true
def zcl:List Do->Option (List Nat)
 | []=>some []
 | .op i :: l=>(zcl l).map (i :: ·)
 | .expect _ _ :: l=>zcl l
 | .np _ :: _=>none
 | .look _ :: _=>none
def icOk (T:Tab) (N:Nat):IC->Bool
 | .ops _ ops=>fitsB N ops
 | .drawn _ ops true plan=>zkj T N ops plan
 | .drawn _ ops false plan=>fitsB N ops && (match zcl plan with | some l=>l == List.range ops.size | none=>false)
 | .seq a b=>icOk T N a && icOk T N b
 | .cond _ a b=>icOk T N a && icOk T N b
 | .block _ c=>icOk T N c
 | .loop _ c=>icOk T N c
 | .cut _ c=>icOk T N c
 | _=>true
def zaa (l:List Nat):IC->Bool
 | .ops _ ops=>zer l ops
 | .drawn _ ops _ _=>zer l ops
 | .seq a b=>zaa l a && zaa l b
 | .cond _ a b=>zaa l a && zaa l b
 | .block _ c=>zaa l c
 | .loop _ c=>zaa l c
 | .cut _ c=>zaa l c
 | _=>true
theorem ziw (ops:Array Oper):zer [] ops = true:=by
 unfold zer
 rw [List.all_eq_true]
 intro o _
 cases o.dst <;> rfl
theorem yk:∀ c:IC, zaa [] c = true
 | .skip=>rfl
 | .ops _ ops=>ziw ops
 | .drawn _ ops _ _=>ziw ops
 | .seq a b=>by simp only [zaa, yk a, yk b, Bool.and_self]
 | .cond _ a b=>by simp only [zaa, yk a, yk b, Bool.and_self]
 | .block _ c=>yk c
 | .loop _ c=>yk c
 | .cut _ c=>yk c
 | .exit _ _=>rfl
 | .ret _=>rfl
 | .dead _=>rfl
theorem fits_ok {N:Lot} {ops:Array Oper} (h:fitsB N.n ops = true) (hk:zer (N.kp.map (·.1)) ops = true):∀ (i:Nat) (o:Oper) (t:Nat), ops[i]? = some o->o.dst = some t->N.has t:=by
 intro i o t ho ht
 refine ⟨?_, keep_ok hk ho ht⟩
 unfold fitsB at h
 rw [List.all_eq_true] at h
 have:=h o (Array.mem_toList_iff.2 (Array.mem_of_getElem? ho))
 rw [ht] at this
 exact Nat.lt_of_succ_le (Nat.le_of_ble_eq_true this)
theorem range_get (ops:Array Oper):(List.range ops.size).map (fun i=>ops[i]?) = ops.toList.map some:=by
 apply List.ext_getElem?
 intro j
 simp only [List.getElem?_map, Array.getElem?_toList]
 by_cases h:j < ops.size
 ·rw [List.getElem?_range h]; simp [h]
 ·rw [List.getElem?_eq_none (by simpa using h)]; simp [h]
section
variable {α:Type} [Subsingleton α] {P:Program} {T:Tab} {base:Nat} {w0:World} {X:Nat->Prop} {call:Call α} {out:α} {N:Lot} {dfs:List Deferred} {ι₀:Io} {h₀:H} {w₁:World} {n:Nat}
structure Post (P:Program) (T:Tab) (base:Nat) (w0:World) (X:Nat->Prop) (out:α) (N:Lot) (dfs:List Deferred) (ι₀:Io) (h₀:H) (w₁:World) (K:Ex->Frame->M α) (Q:Exit->Act->World->Prop):Prop where
 normal:∀ ρ' h' ι' a' w', K .normal ρ' h' = some out->St T base w0 X N dfs ι₀ h₀ w₁ ι' h' w' a'->FR ι' (okOf h' X) ρ' a'->Q .normal a' w'
 exit:∀ id ρ' h' ι' a' w', K (.exit id) ρ' h' = some out->St T base w0 X N dfs ι₀ h₀ w₁ ι' h' w' a'->FR ι' (okOf h' X) ρ' a'->Q (.exit id) a' w'
 ret:∀ ρ' h' ι' a' w', K .ret ρ' h' = some out->St T base w0 X N dfs ι₀ h₀ w₁ ι' h' w' a'->FR ι' (okOf h' X) ρ' a'->Q .ret a' w'
 pan:∀ v ρ' h' ι' x a' w', K (.pan v) ρ' h' = some out->St T base w0 X N dfs ι₀ h₀ w₁ ι' h' w' a'->VR ι' (okOf h' X) v x->Q (.panic [{ v:=x, recovered:=false }]) a' w'
theorem Post.seq {K:Ex->Frame->M α} {Q:Exit->Act->World->Prop} {Nx:Frame->M α} {next:Act->World->Prop} (p:Post P T base w0 X out N dfs ι₀ h₀ w₁ K Q)
  (hn:∀ ρ' h' ι' a' w', Nx ρ' h' = some out->St T base w0 X N dfs ι₀ h₀ w₁ ι' h' w' a'->FR ι' (okOf h' X) ρ' a'->next a' w') :
  Post P T base w0 X out N dfs ι₀ h₀ w₁ (seqK Nx K) (Exit.then next Q):=
 ⟨fun ρ' h' ι' a' w' e S F=>hn ρ' h' ι' a' w' e S F, fun id ρ' h' ι' a' w' e S F=>p.exit id ρ' h' ι' a' w' e S F, fun ρ' h' ι' a' w' e S F=>p.ret ρ' h' ι' a' w' e S F,
  fun v ρ' h' ι' x a' w' e S hv=>p.pan v ρ' h' ι' x a' w' e S hv⟩
theorem Post.block {K:Ex->Frame->M α} {Q:Exit->Act->World->Prop} (id:Nat) (p:Post P T base w0 X out N dfs ι₀ h₀ w₁ K Q):Post P T base w0 X out N dfs ι₀ h₀ w₁ (jp id K) (Exit.inBlock id Q):=by
 refine ⟨p.normal, fun i ρ' h' ι' a' w' e S F=>?_, p.ret, p.pan⟩
 simp only [jp] at e
 by_cases hi:i = id
 ·subst hi
  simp only [Exit.inBlock, if_true]
  rw [show Nat.beq i i = true from Nat.beq_refl i] at e
  exact p.normal ρ' h' ι' a' w' e S F
 ·simp only [Exit.inBlock, if_neg hi]
  rw [zab hi] at e
  exact p.exit i ρ' h' ι' a' w' e S F
theorem zdt (hT:TabOk P T) (hC:jb P T base w0 call) {ops:Array Oper} {Q:Exit->Act->World->Prop} {K:Frame->M α} {E:V->M α}
  (hfit:∀ (i:Nat) (o:Oper) (t:Nat), ops[i]? = some o->o.dst = some t->N.has t)
  (hn:∀ ρ' h' ι' a' w', K ρ' h' = some out->St T base w0 X N dfs ι₀ h₀ w₁ ι' h' w' a'->FR ι' (okOf h' X) ρ' a'->Q .normal a' w')
  (hp:∀ v h' ι' x a' w', E v h' = some out->St T base w0 X N dfs ι₀ h₀ w₁ ι' h' w' a'->VR ι' (okOf h' X) v x->Q (.panic [{ v:=x, recovered:=false }]) a' w') :
  ∀ (pl:List Do) (l:List Nat), zcl pl = some l->∀ (ρ:Frame) (h:H) (ι:Io) (a:Act) (w:World),
   St T base w0 X N dfs ι₀ h₀ w₁ ι h w a->FR ι (okOf h X) ρ a->jw T call ops pl ρ K E h = some out->wpOps P ops Q l a w
 | [], _, hl, ρ, h, ι, a, w, S, F, e=>by cases hl; exact hn ρ h ι a w e S F
 | .expect _ _ :: pl, l, hl, ρ, h, ι, a, w, S, F, e=>zdt hT hC hfit hn hp pl l hl ρ h ι a w S F (zcb e)
 | .look _ :: _, l, hl, _, _, _, _, _, _, _, _=>by cases hl
 | .np _ :: _, l, hl, _, _, _, _, _, _, _, _=>by cases hl
 | .op i :: pl, l, hl, ρ, h, ι, a, w, S, F, e=>by
  simp only [zcl] at hl
  cases hq:zcl pl with
  | none=>rw [hq] at hl; cases hl
  | some l'=>
   rw [hq] at hl
   cases hl
   simp only [jw] at e
   cases ho:ops[i]? with
   | none=>rw [ho] at e; cases e
   | some o=>
    rw [ho] at e
    simp only [wpOps, ho]
    have:=zli (Q:=Q) (next:=wpOps P ops Q l') (rest:=[]) hT hC (fun t ht=>hfit i o t ho ht) S F e
     (fun ρ' h' ι' a' w' e' S' F'=>zdt hT hC hfit hn hp pl l' hq ρ' h' ι' a' w' S' F' e') (fun v h' ι' x w' e' S' hv=>hp v h' ι' x a w' e' S' hv)
    split
    ·rename_i hw; rw [if_pos hw] at this; exact .inl this
    ·rename_i hw; rw [if_neg hw] at this; exact this
theorem zbp (hm:P.follows .mixedOrders = true) (hT:TabOk P T) (hC:jb P T base w0 call):∀ (c:IC), icOk T N.n c = true->zaa (N.kp.map (·.1)) c = true->∀ (K:Ex->Frame->M α) (Q:Exit->Act->World->Prop),
  Post P T base w0 X out N dfs ι₀ h₀ w₁ K Q->∀ (ρ:Frame) (h:H) (ι:Io) (a:Act) (w:World), St T base w0 X N dfs ι₀ h₀ w₁ ι h w a->FR ι (okOf h X) ρ a ->
   evC T call n c ρ K h = some out->c.code.wp P Q a w
 | .skip, _, hk, K, Q, p, ρ, h, ι, a, w, S, F, e=>wp_skip (p.normal ρ h ι a w e S F)
 | .ops id ops, hc, hk, K, Q, p, ρ, h, ι, a, w, S, F, e=>by
  refine wp_region (zlu hT hC (fits_ok hc hk) p.normal (fun v h' ι' x a' w' e' S' hv=>p.pan v _ h' ι' x a' w' e' S' hv) _ _ (range_get ops) ρ h ι a w S F e)
 | .drawn id ops true plan, hc, hk, K, Q, p, ρ, h, ι, a, w, S, F, e=>
  drawn_ok hm hT hC hc hk S F e p.normal (fun v h' ι' x a' w' e' S' hv=>p.pan v _ h' ι' x a' w' e' S' hv)
 | .drawn id ops false plan, hc, hk, K, Q, p, ρ, h, ι, a, w, S, F, e=>by
  simp only [icOk, Bool.and_eq_true] at hc
  cases hq:zcl plan with
  | none=>rw [hq] at hc; exact absurd hc.2 (by simp)
  | some l=>
   rw [hq] at hc
   have hl:l = List.range ops.size:=by simpa using hc.2
   subst hl
   exact wp_region (zdt hT hC (fits_ok hc.1 hk) p.normal (fun v h' ι' x a' w' e' S' hv=>p.pan v _ h' ι' x a' w' e' S' hv) plan _ hq ρ h ι a w S F e)
 | .seq c d, hc, hk, K, Q, p, ρ, h, ι, a, w, S, F, e=>by
  simp only [icOk, Bool.and_eq_true] at hc
  simp only [zaa, Bool.and_eq_true] at hk
  refine wp_seq (zbp hm hT hC c hc.1 hk.1 _ _ (p.seq fun ρ' h' ι' a' w' e' S' F'=>?_) ρ h ι a w S F e)
  exact zbp hm hT hC d hc.2 hk.2 K Q p ρ' h' ι' a' w' S' F' e'
 | .cond x c d, hc, hk, K, Q, p, ρ, h, ι, a, w, S, F, e=>by
  simp only [icOk, Bool.and_eq_true] at hc
  simp only [zaa, Bool.and_eq_true] at hk
  simp only [evC] at e
  obtain ⟨g, hg, e⟩:=zem e
  have hx:=zhd S.R F x
  rw [hg] at hx
  have hx:a.eval x = .bool g:=hx
  refine wp_cond_split (t:=g) hx (fun ht=>?_) (fun ht=>?_)
  ·rw [ht] at e; exact zbp hm hT hC c hc.1 hk.1 K Q p ρ h ι a w S F e
  ·rw [ht] at e; exact zbp hm hT hC d hc.2 hk.2 K Q p ρ h ι a w S F e
 | .block id c, hc, hk, K, Q, p, ρ, h, ι, a, w, S, F, e=>
  wp_block (zbp hm hT hC c hc hk _ _ (p.block id) ρ h ι a w S F e)
 | .loop keep c, hc, hk, K, Q, p, ρ, h, ι, a, w, S, F, e=>by
  refine zjt (fun j a w=>∃ ρ h ι, zu (evC T call n c) keep j ρ K h = some out ∧ St T base w0 X N dfs ι₀ h₀ w₁ ι h w a ∧ FR ι (okOf h X) ρ a) ?_ ⟨ρ, h, ι, e, S, F⟩
  rintro j a w ⟨ρ, h, ι, e, S, F⟩
  cases j with
  | zero=>cases e
  | succ j=>
   refine ⟨j, rfl, zbp hm hT hC c hc hk _ _ (p.seq fun ρ' h' ι' a' w' e' S' F'=>⟨ρ', h', ι', e', S', F'⟩) _ h ι a w S (F.keep keep) e⟩
 | .cut keep c, hc, hk, K, Q, p, ρ, h, ι, a, w, S, F, e=>by
  refine zbp hm hT hC c hc hk _ _ ?_ ρ h ι a w S F e
  exact ⟨fun ρ' h' ι' a' w' e' S' F'=>p.normal _ h' ι' a' w' e' S' (F'.keep keep), p.exit, p.ret, p.pan⟩
 | .exit id keep, hc, hk, K, Q, p, ρ, h, ι, a, w, S, F, e=>wp_exit (p.exit id _ h ι a w e S (F.keep keep))
 | .ret keep, hc, hk, K, Q, p, ρ, h, ι, a, w, S, F, e=>wp_ret (p.ret _ h ι a w e S (F.keep keep))
 | .dead _, hc, hk, K, Q, p, ρ, h, ι, a, w, S, F, e=>by cases e
def zdu (tmps:Array Value):ResultVar->Sem Value
 | .tmp t=>pure (tmps.getD t undef)
 | .cell p t=>do loadVar t (← asAddr (tmps.getD p undef))
theorem zgp (hT:TabOk P T) (R:HR T base w0 X ι₀ h₀ w₁) {ρ:Frame} {a:Act} (F:FR ι₀ (okOf h₀ X) ρ a):∀ (rs:List ResultVar) (K:List V->M α), resV T rs ρ K h₀ = some out ->
  ∃ vs xs, K vs h₀ = some out ∧ VRL ι₀ (okOf h₀ X) vs xs ∧
   ((rs.mapM (zdu a.tmps)):Sem (List Value)).run P w₁ = .ok xs w₁
 | [], K, e=>⟨[], [], e, trivial, rfl⟩
 | .tmp t :: rs, K, e=>by
  simp only [resV] at e
  obtain ⟨vs, xs, e1, hv, hr⟩:=zgp hT R F rs (fun vs=>K (ρ t :: vs)) e
  refine ⟨ρ t :: vs, a.tmps.getD t undef :: xs, e1, ⟨F t, hv⟩, ?_⟩
  simp only [List.mapM_cons, zdu, Sem.run_bind, Sem.run_pure, Result.andThen_ok, hr]
 | .cell p t :: rs, K, e=>by
  simp only [resV] at e
  obtain ⟨q, hq, e⟩:=jz e
  obtain ⟨q, rfl, e⟩:=jk e
  have hp:=F p
  rw [hq] at hp
  obtain ⟨hok, hp⟩:=hp
  cases hi:T.ti t with
  | none=>rw [hi] at e; cases e
  | some i=>
   rw [hi] at e
   dsimp only at e
   have I:=hT.ti t i hi
   obtain ⟨us, hl, hcell, e⟩:=zdl e
   obtain ⟨v, hv, e⟩:=zfc e
   obtain ⟨vs, xs, e1, hvs, hr⟩:=zgp hT R F rs (fun vs=>K (v :: vs)) e
   have hcell':∀ j, j < us.length->h₀.cell (q.add j) = us[j]?:=fun j hj=>by simpa using hcell j (by omega)
   have hlen:us.length = i.size:=by rw [hl, I.shl]
   obtain ⟨ys, hrun, hvr⟩:=zbf (P:=P) R hok.2 hcell'
   have:∃ y, (loadVar t (q.to ι₀)).run P w₁ = .ok y w₁ ∧ VR ι₀ (okOf h₀ X) v y:=by
    cases hag:i.agg with
    | true=>
     rw [hag] at hv
     simp only [if_true] at hv
     rw [hlen] at hrun
     exact ⟨.agg ys, by simp [loadVar, I.run_isAgg, hag, I.run_size, hrun], by rw [hv]; exact ⟨ys, rfl, hvr⟩⟩
    | false=>
     rw [hag] at hv
     simp only [Bool.false_eq_true, if_false] at hv
     subst hv
     have h1:=hcell' 0 (by simp)
     rw [List.getElem?_cons_zero] at h1
     obtain ⟨y, hy, hr, _⟩:=R.cell (a:=q.add 0) hok.2 h1
     have hy':w₁.cell? (q.to ι₀) = some y:=by rw [← zbl] at hy; simpa [Addr.add] using hy
     exact ⟨y, by simp [loadVar, I.run_isAgg, hag, hy'], hr⟩
   obtain ⟨y, hy, hvy⟩:=this
   refine ⟨v :: vs, y :: xs, e1, ⟨hvy, hvs⟩, ?_⟩
   have ha:(asAddr (a.tmps.getD p undef)).run P w₁ = .ok (q.to ι₀) w₁:=by rw [hp]; rfl
   simp only [List.mapM_cons, zdu, Sem.run_bind, Sem.run_pure, Result.andThen_ok, ha, hy, hr]
theorem zew {ι:Io} {ok:Nat->Prop}:∀ (args:List V) (i:Nat) (xs:List Value) (t:Nat), VRL ι ok args xs->i≤t->VR ι ok (za (idx i args) t) ((xs[t - i]?).getD undef)
 | [], i, [], t, _, _=>trivial
 | v :: args, i, x :: xs, t, h, hi=>by
  show VR ι ok (cond (Nat.beq t i) v (za (idx (i + 1) args) t)) _
  by_cases e:t = i
  ·subst e; simpa using h.1
  ·rw [zab e]
   have:=zew args (i + 1) xs t h.2 (by omega)
   rw [show t - i = (t - (i + 1)) + 1 by omega, List.getElem?_cons_succ]
   exact this
 | [], _, _ :: _, _, h, _=>h.elim
 | _ :: _, _, [], _, h, _=>h.elim
def oneOf (ys:List Value):Value:=match ys with | [v]=>v | ys=>.tuple ys.toArray
theorem zdw (hm:P.follows .mixedOrders = true) (hT:TabOk P T) (hC:jb P T base w0 call) {f:FuncId} {fn:Func} {c:IC} {rs:List ResultVar} (hf:P.funcs[f]? = some fn) (hb:fn.body = some c.code)
  (hname:(fn.name == "runtime.NumGoroutine") = false) (hrs:fn.results.toList = rs) (hic:icOk T fn.ntmps c = true) {args:List V} {xs:Array Value} {κ:Res->M α} {ι:Io} {h:H} {w:World}
  (R:HR T base w0 X ι h w) (hX:Lft X h) (hv:VRL ι (okOf h X) args xs.toList) (hsz:args.length≤fn.ntmps) (e:evF T call n c rs args κ h = some out):(callFunc f xs).run P w = .ok (.enter f xs) w ∧ Calls P f xs w fun e w'=>∃ r h' ι', κ r h' = some out ∧ HR T base w0 X ι' h' w' ∧ Went X ι h w ι' h' w' ∧ EndR ι' (okOf h' X) r e:=by
 have hlen:args.length = xs.size:=by simpa using hv.length
 have hname':¬ fn.name = "runtime.NumGoroutine":=by simpa using hname
 refine ⟨by simp [callFunc, hf, hname', hb], calls_of_wp hf hb ?_⟩
 have S:St T base w0 X ⟨fn.ntmps, []⟩ [] ι h w ι h w { tmps:=xs ++ Array.replicate (fn.ntmps - xs.size) undef, defers:=[] }:=
  ⟨R, Went.refl X ι h w, hX, by simp; omega, fun p hp=>(nomatch hp), rfl⟩
 have F:FR ι (okOf h X) (za (idx 0 args)) { tmps:=xs ++ Array.replicate (fn.ntmps - xs.size) undef, defers:=[] }:=by
  intro t
  have:=zew args 0 xs.toList t hv (Nat.zero_le _)
  simp only [Nat.sub_zero] at this
  by_cases ht:t < xs.size
  ·have e1:(xs ++ Array.replicate (fn.ntmps - xs.size) undef).getD t undef = (xs.toList[t]?).getD undef:=by
    simp [Array.getD_eq_getD_getElem?, Array.getElem?_append, ht]
   rw [e1]; exact this
  ·have:za (idx 0 args) t = .undef:=by
    have key:∀ (l:List V) (i:Nat), i + l.length≤t->za (idx i l) t = .undef:=by
     intro l
     induction l with
     | nil=>intro i _; rfl
     | cons v l ih=>
      intro i hi
      simp only [List.length_cons] at hi
      show cond (Nat.beq t i) v _ = _
      rw [zab (by omega)]
      exact ih (i + 1) (by omega)
    exact key args 0 (by omega)
   rw [this]; trivial
 refine zbp (N:=⟨fn.ntmps, []⟩) hm hT hC c hic (yk c) _ _ ?_ _ h ι _ w S F e
 have out_ok:∀ ρ' h' ι' a' w', resV T rs ρ' (fun vs=>κ (.ret (match vs with | [v]=>v | vs=>.tuple vs))) h' = some out->St T base w0 X ⟨fn.ntmps, []⟩ [] ι h w ι' h' w' a'->FR ι' (okOf h' X) ρ' a' ->
   a'.defers = [] ∧ ∃ v, (results fn a'.tmps).run P w' = .ok v w' ∧ ∃ r h'' ι'', κ r h'' = some out ∧ HR T base w0 X ι'' h'' w' ∧ Went X ι h w ι'' h'' w' ∧ EndR ι'' (okOf h'' X) r (.returned v):=by
  intro ρ' h' ι' a' w' e' S' F'
  obtain ⟨vs, ys, e1, hvs, hr⟩:=zgp hT S'.R F' rs _ e'
  have hrun:(results fn a'.tmps).run P w' = .ok (oneOf ys) w':=by
   have h1:results fn a'.tmps = (do let vs ← fn.results.mapM (zdu a'.tmps); pure (if h:vs.size = 1 then vs[0] else .tuple vs)):=by
    unfold results
    have:∀ f g:ResultVar->Sem Value, (∀ x, f x = g x)->fn.results.mapM f = fn.results.mapM g:=fun f g h=>by rw [funext h]
    rw [this _ (zdu a'.tmps) (fun x=>by cases x <;> rfl)]
   rw [h1]
   simp only [Sem.run_bind, Array.mapM_eq_mapM_toList, Sem.run_map, hrs]
   rw [hr]
   simp only [Result.andThen_ok, Sem.run_pure]
   match ys with
   | []=>rfl
   | [v]=>rfl
   | _ :: _ :: _=>rfl
  refine ⟨S'.df, _, hrun, _, h', ι', e1, S'.R, S'.W, ?_⟩
  match vs, ys, hvs with
  | [], [], _=>exact ⟨#[], rfl, trivial⟩
  | [v], [x], hvs=>exact hvs.1
  | v :: u :: vs, x :: y :: ys, hvs=>exact ⟨(x :: y :: ys).toArray, rfl, by simpa using hvs⟩
  | [v], _ :: _ :: _, hvs=>exact hvs.2.elim
  | _ :: _ :: _, [_], hvs=>exact hvs.2.elim
 refine ⟨out_ok, fun id ρ' h' ι' a' w' e' S' F'=>(by cases e'), out_ok, fun v ρ' h' ι' x a' w' e' S' hv=>⟨S'.df, .pan v, h', ι', e', S'.R, S'.W, x, rfl, hv⟩⟩
theorem jr (hm:P.follows .mixedOrders = true) (hT:TabOk P T) (hC:jb P T base w0 call) {f:FuncId} {fn:Func} {c:IC} {rs:List ResultVar} (hf:P.funcs[f]? = some fn) (hb:fn.body = some c.code)
  (hname:(fn.name == "runtime.NumGoroutine") = false) (hrs:fn.results.toList = rs) (hic:icOk T fn.ntmps c = true) {args:List V} {xs:Array Value} {κ:Res->M α} {ι:Io} {h:H} {w:World}
  (R:HR T base w0 X ι h w) (hX:Lft X h) (hv:VRL ι (okOf h X) args xs.toList) (hsz:args.length≤fn.ntmps) (e:evF T call n c rs args κ h = some out):zgi P T base w0 X ι h w f xs κ out:=
 .inr (zdw hm hT hC hf hb hname hrs hic R hX hv hsz e)
end
end Go.Ab
