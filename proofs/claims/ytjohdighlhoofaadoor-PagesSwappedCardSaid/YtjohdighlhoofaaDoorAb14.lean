import Derived.Test.YtjohdighlhoofaaDoorAb13
set_option linter.unusedVariables false
set_option linter.unusedSimpArgs false
namespace Go.Ab
theorem zlq {P:Program} {c:Code} {Q:Exit->Act->World->Prop} (J:Nat->Act->World->Prop)
  (round:∀ j a w, J j a w->∃ j', j = j' + 1 ∧ c.wp P (Exit.then (J j') Q) a w) {n:Nat} {a:Act} {w:World} (h₀:J n a w):(Code.loop c).wp P Q a w:=by
 intro b k cs
 have key:∀ n a w, J n a w->∃ e a' w', Q e a' w' ∧ Arrives P (lone (b.at a (.code c :: .inLoop c :: k)) cs w) b k cs e a' w':=by
  intro n
  induction n with
  | zero=>
   intro a w hJ
   obtain ⟨j', h, _⟩:=round 0 a w hJ
   cases h
  | succ n ih=>
   intro a w hJ
   obtain ⟨j', h, hr⟩:=round (n + 1) a w hJ
   cases h
   obtain ⟨e, a₁, w₁, hq, harr⟩:=hr b (.inLoop c :: k) cs
   cases e with
   | normal=>
    obtain ⟨e₂, a₂, w₂, hq₂, harr₂⟩:=ih a₁ w₁ hq
    exact ⟨e₂, a₂, w₂, hq₂, .of_steps (Steps.trans harr (.one step_inLoop)) harr₂⟩
   | exit id=>exact ⟨_, a₁, w₁, hq, .pass (x:=.inLoop c) rfl (fun _ _=>.inl (by simp)) harr⟩
   | goto l=>exact ⟨_, a₁, w₁, hq, .pass (x:=.inLoop c) rfl (fun _ _=>.inl (by simp)) harr⟩
   | ret=>exact ⟨_, a₁, w₁, hq, .pass (x:=.inLoop c) rfl (fun _ _=>.inl (by simp)) harr⟩
   | panic ch=>exact ⟨_, a₁, w₁, hq, .pass (x:=.inLoop c) rfl (fun _ _=>.inl (by simp)) harr⟩
   | outgrown=>exact ⟨_, a₁, w₁, hq, .pass (x:=.inLoop c) rfl (fun _ _=>.inl (by simp)) harr⟩
 obtain ⟨e, a', w', hq, harr⟩:=key n a w h₀
 exact ⟨e, a', w', hq, .of_steps (.one step_loop) harr⟩
def fitsB (N:Nat) (ops:Array Oper):Bool:=ops.toList.all fun o=>match o.dst with | some d=>Nat.blt d N | none=>true
def zda:List Do->Option (List Nat)
 | []=>some []
 | .op i :: l=>(zda l).map (i :: ·)
 | .expect _ _ :: l=>zda l
 | .look _ :: _=>none
def icOk (T:Tab) (N:Nat):IC->Bool
 | .ops _ ops=>fitsB N ops
 | .drawn _ ops true plan=>zlk T N ops plan
 | .drawn _ ops false plan=>fitsB N ops && (match zda plan with | some l=>l == List.range ops.size | none=>false)
 | .seq a b=>icOk T N a && icOk T N b
 | .cond _ a b=>icOk T N a && icOk T N b
 | .block _ c=>icOk T N c
 | .loop _ c=>icOk T N c
 | .cut _ c=>icOk T N c
 | _=>true
def zbg (l:List Nat):IC->Bool
 | .ops _ ops=>zfw l ops
 | .drawn _ ops _ _=>zfw l ops
 | .seq a b=>zbg l a && zbg l b
 | .cond _ a b=>zbg l a && zbg l b
 | .block _ c=>zbg l c
 | .loop _ c=>zbg l c
 | .cut _ c=>zbg l c
 | _=>true
theorem zkl (ops:Array Oper):zfw [] ops = true:=by
 unfold zfw
 rw [List.all_eq_true]
 intro o _
 cases o.dst <;> rfl
theorem zaj:∀ c:IC, zbg [] c = true
 | .skip=>rfl
 | .ops _ ops=>zkl ops
 | .drawn _ ops _ _=>zkl ops
 | .seq a b=>by simp only [zbg, zaj a, zaj b, Bool.and_self]
 | .cond _ a b=>by simp only [zbg, zaj a, zaj b, Bool.and_self]
 | .block _ c=>zaj c
 | .loop _ c=>zaj c
 | .cut _ c=>zaj c
 | .exit _ _=>rfl
 | .ret _=>rfl
 | .dead _=>rfl
theorem fits_ok {N:Lot} {ops:Array Oper} (h:fitsB N.n ops = true) (hk:zfw (N.kp.map (·.1)) ops = true):∀ (i:Nat) (o:Oper) (t:Nat), ops[i]? = some o->o.dst = some t->N.has t:=by
 intro i o t ho ht
 refine ⟨?_, keep_ok hk ho ht⟩
 unfold fitsB at h
 rw [List.all_eq_true] at h
 have:=h o (Array.mem_toList_iff.2 (Array.mem_of_getElem? ho))
 rw [ht] at this
 exact Nat.lt_of_succ_le (Nat.le_of_ble_eq_true this)
theorem range_get (ops:Array Oper):(List.range ops.size).map (fun i=>ops[i]?) = ops.toList.map some:=by
 apply List.ext_getElem?
 intro j
 simp only [List.getElem?_map, Array.getElem?_toList]
 by_cases h:j < ops.size
 ·rw [List.getElem?_range h]; simp [h]
 ·rw [List.getElem?_eq_none (by simpa using h)]; simp [h]
section
variable {α:Type} {P:Program} {T:Tab} {base:Nat} {w0:World} {X:Nat->Prop} {call:Call α} {out:α} {N:Lot} {dfs:List Deferred} {ι₀:Io} {h₀:H} {w₁:World} {n:Nat}
structure Post (P:Program) (T:Tab) (base:Nat) (w0:World) (X:Nat->Prop) (out:α) (N:Lot) (dfs:List Deferred) (ι₀:Io) (h₀:H) (w₁:World) (K:Ex->zb->M α) (Q:Exit->Act->World->Prop):Prop where
 normal:∀ ρ' h' ι' a' w', K .normal ρ' h' = some out->St T base w0 X N dfs ι₀ h₀ w₁ ι' h' w' a'->FR ι' (okOf h' X) ρ' a'->Q .normal a' w'
 exit:∀ id ρ' h' ι' a' w', K (.exit id) ρ' h' = some out->St T base w0 X N dfs ι₀ h₀ w₁ ι' h' w' a'->FR ι' (okOf h' X) ρ' a'->Q (.exit id) a' w'
 ret:∀ ρ' h' ι' a' w', K .ret ρ' h' = some out->St T base w0 X N dfs ι₀ h₀ w₁ ι' h' w' a'->FR ι' (okOf h' X) ρ' a'->Q .ret a' w'
 pan:∀ v ρ' h' ι' x a' w', K (.pan v) ρ' h' = some out->St T base w0 X N dfs ι₀ h₀ w₁ ι' h' w' a'->VR ι' (okOf h' X) v x->Q (.panic [{ v:=x, recovered:=false }]) a' w'
theorem Post.seq {K:Ex->zb->M α} {Q:Exit->Act->World->Prop} {Nx:zb->M α} {next:Act->World->Prop} (p:Post P T base w0 X out N dfs ι₀ h₀ w₁ K Q)
  (hn:∀ ρ' h' ι' a' w', Nx ρ' h' = some out->St T base w0 X N dfs ι₀ h₀ w₁ ι' h' w' a'->FR ι' (okOf h' X) ρ' a'->next a' w') :
  Post P T base w0 X out N dfs ι₀ h₀ w₁ (seqK Nx K) (Exit.then next Q):=
 ⟨fun ρ' h' ι' a' w' e S F=>hn ρ' h' ι' a' w' e S F, fun id ρ' h' ι' a' w' e S F=>p.exit id ρ' h' ι' a' w' e S F, fun ρ' h' ι' a' w' e S F=>p.ret ρ' h' ι' a' w' e S F,
  fun v ρ' h' ι' x a' w' e S hv=>p.pan v ρ' h' ι' x a' w' e S hv⟩
theorem Post.block {K:Ex->zb->M α} {Q:Exit->Act->World->Prop} (id:Nat) (p:Post P T base w0 X out N dfs ι₀ h₀ w₁ K Q):Post P T base w0 X out N dfs ι₀ h₀ w₁ (yf id K) (Exit.inBlock id Q):=by
 refine ⟨p.normal, fun i ρ' h' ι' a' w' e S F=>?_, p.ret, p.pan⟩
 simp only [yf] at e
 by_cases hi:i = id
 ·subst hi
  simp only [Exit.inBlock, if_true]
  rw [show Nat.beq i i = true from Nat.beq_refl i] at e
  exact p.normal ρ' h' ι' a' w' e S F
 ·simp only [Exit.inBlock, if_neg hi]
  rw [jx hi] at e
  exact p.exit i ρ' h' ι' a' w' e S F
theorem zet (hT:TabOk P T) (hC:zr P T base w0 call) {ops:Array Oper} {Q:Exit->Act->World->Prop} {K:zb->M α} {E:V->M α}
  (hfit:∀ (i:Nat) (o:Oper) (t:Nat), ops[i]? = some o->o.dst = some t->N.has t)
  (hn:∀ ρ' h' ι' a' w', K ρ' h' = some out->St T base w0 X N dfs ι₀ h₀ w₁ ι' h' w' a'->FR ι' (okOf h' X) ρ' a'->Q .normal a' w')
  (hp:∀ v h' ι' x a' w', E v h' = some out->St T base w0 X N dfs ι₀ h₀ w₁ ι' h' w' a'->VR ι' (okOf h' X) v x->Q (.panic [{ v:=x, recovered:=false }]) a' w') :
  ∀ (pl:List Do) (l:List Nat), zda pl = some l->∀ (ρ:zb) (h:H) (ι:Io) (a:Act) (w:World),
   St T base w0 X N dfs ι₀ h₀ w₁ ι h w a->FR ι (okOf h X) ρ a->ya T call ops pl ρ K E h = some out->wpOps P ops Q l a w
 | [], _, hl, ρ, h, ι, a, w, S, F, e=>by cases hl; exact hn ρ h ι a w e S F
 | .expect _ _ :: pl, l, hl, ρ, h, ι, a, w, S, F, e=>zet hT hC hfit hn hp pl l hl ρ h ι a w S F (zck e)
 | .look _ :: _, l, hl, _, _, _, _, _, _, _, _=>by cases hl
 | .op i :: pl, l, hl, ρ, h, ι, a, w, S, F, e=>by
  simp only [zda] at hl
  cases hq:zda pl with
  | none=>rw [hq] at hl; cases hl
  | some l'=>
   rw [hq] at hl
   cases hl
   simp only [ya] at e
   cases ho:ops[i]? with
   | none=>rw [ho] at e; cases e
   | some o=>
    rw [ho] at e
    simp only [wpOps, ho]
    have:=znl (Q:=Q) (next:=wpOps P ops Q l') (rest:=[]) hT hC (fun t ht=>hfit i o t ho ht) S F e
     (fun ρ' h' ι' a' w' e' S' F'=>zet hT hC hfit hn hp pl l' hq ρ' h' ι' a' w' S' F' e') (fun v h' ι' x w' e' S' hv=>hp v h' ι' x a w' e' S' hv)
    split
    ·rename_i hw; rw [if_pos hw] at this; exact .inl this
    ·rename_i hw; rw [if_neg hw] at this; exact this
theorem zdj (hm:P.follows .mixedOrders = true) (hX0:∀ i, ¬ X i) (hT:TabOk P T) (hC:zr P T base w0 call):∀ (c:IC), icOk T N.n c = true->zbg (N.kp.map (·.1)) c = true->∀ (K:Ex->zb->M α) (Q:Exit->Act->World->Prop),
  Post P T base w0 X out N dfs ι₀ h₀ w₁ K Q->∀ (ρ:zb) (h:H) (ι:Io) (a:Act) (w:World), St T base w0 X N dfs ι₀ h₀ w₁ ι h w a->FR ι (okOf h X) ρ a ->
   evC T call n c ρ K h = some out->c.code.wp P Q a w
 | .skip, _, hk, K, Q, p, ρ, h, ι, a, w, S, F, e=>wp_skip (p.normal ρ h ι a w e S F)
 | .ops id ops, hc, hk, K, Q, p, ρ, h, ι, a, w, S, F, e=>by
  refine wp_region (zmt hT hC (fits_ok hc hk) p.normal (fun v h' ι' x a' w' e' S' hv=>p.pan v _ h' ι' x a' w' e' S' hv) _ _ (range_get ops) ρ h ι a w S F e)
 | .drawn id ops true plan, hc, hk, K, Q, p, ρ, h, ι, a, w, S, F, e=>
  drawn_ok hm hX0 hT hC hc hk S F e p.normal (fun v h' ι' x a' w' e' S' hv=>p.pan v _ h' ι' x a' w' e' S' hv)
 | .drawn id ops false plan, hc, hk, K, Q, p, ρ, h, ι, a, w, S, F, e=>by
  simp only [icOk, Bool.and_eq_true] at hc
  cases hq:zda plan with
  | none=>rw [hq] at hc; exact absurd hc.2 (by simp)
  | some l=>
   rw [hq] at hc
   have hl:l = List.range ops.size:=by simpa using hc.2
   subst hl
   exact wp_region (zet hT hC (fits_ok hc.1 hk) p.normal (fun v h' ι' x a' w' e' S' hv=>p.pan v _ h' ι' x a' w' e' S' hv) plan _ hq ρ h ι a w S F e)
 | .seq c d, hc, hk, K, Q, p, ρ, h, ι, a, w, S, F, e=>by
  simp only [icOk, Bool.and_eq_true] at hc
  simp only [zbg, Bool.and_eq_true] at hk
  refine wp_seq (zdj hm hX0 hT hC c hc.1 hk.1 _ _ (p.seq fun ρ' h' ι' a' w' e' S' F'=>?_) ρ h ι a w S F e)
  exact zdj hm hX0 hT hC d hc.2 hk.2 K Q p ρ' h' ι' a' w' S' F' e'
 | .cond x c d, hc, hk, K, Q, p, ρ, h, ι, a, w, S, F, e=>by
  simp only [icOk, Bool.and_eq_true] at hc
  simp only [zbg, Bool.and_eq_true] at hk
  simp only [evC] at e
  obtain ⟨g, hg, e⟩:=zcy e
  have hx:=zjb S.R F x
  rw [hg] at hx
  have hx:a.eval x = .bool g:=hx
  refine wp_cond_split (t:=g) hx (fun ht=>?_) (fun ht=>?_)
  ·rw [ht] at e; exact zdj hm hX0 hT hC c hc.1 hk.1 K Q p ρ h ι a w S F e
  ·rw [ht] at e; exact zdj hm hX0 hT hC d hc.2 hk.2 K Q p ρ h ι a w S F e
 | .block id c, hc, hk, K, Q, p, ρ, h, ι, a, w, S, F, e=>
  wp_block (zdj hm hX0 hT hC c hc hk _ _ (p.block id) ρ h ι a w S F e)
 | .loop keep c, hc, hk, K, Q, p, ρ, h, ι, a, w, S, F, e=>by
  refine zlq (fun j a w=>∃ ρ h ι, zu (evC T call n c) keep j ρ K h = some out ∧ St T base w0 X N dfs ι₀ h₀ w₁ ι h w a ∧ FR ι (okOf h X) ρ a) ?_ ⟨ρ, h, ι, e, S, F⟩
  rintro j a w ⟨ρ, h, ι, e, S, F⟩
  cases j with
  | zero=>cases e
  | succ j=>
   refine ⟨j, rfl, zdj hm hX0 hT hC c hc hk _ _ (p.seq fun ρ' h' ι' a' w' e' S' F'=>⟨ρ', h', ι', e', S', F'⟩) _ h ι a w S (F.keep keep) e⟩
 | .cut keep c, hc, hk, K, Q, p, ρ, h, ι, a, w, S, F, e=>by
  refine zdj hm hX0 hT hC c hc hk _ _ ?_ ρ h ι a w S F e
  exact ⟨fun ρ' h' ι' a' w' e' S' F'=>p.normal _ h' ι' a' w' e' S' (F'.keep keep), p.exit, p.ret, p.pan⟩
 | .exit id keep, hc, hk, K, Q, p, ρ, h, ι, a, w, S, F, e=>wp_exit (p.exit id _ h ι a w e S (F.keep keep))
 | .ret keep, hc, hk, K, Q, p, ρ, h, ι, a, w, S, F, e=>wp_ret (p.ret _ h ι a w e S (F.keep keep))
 | .dead _, hc, hk, K, Q, p, ρ, h, ι, a, w, S, F, e=>by cases e
def zjp (tmps:Array Value):ResultVar->Sem Value
 | .tmp t=>pure (tmps.getD t undef)
 | .cell p t=>do loadVar t (← asAddr (tmps.getD p undef))
theorem zmd (hT:TabOk P T) (R:HR T base w0 X ι₀ h₀ w₁) {ρ:zb} {a:Act} (F:FR ι₀ (okOf h₀ X) ρ a):∀ (rs:List ResultVar) (K:List V->M α), resV T rs ρ K h₀ = some out ->
  ∃ vs xs, K vs h₀ = some out ∧ VRL ι₀ (okOf h₀ X) vs xs ∧
   ((rs.mapM (zjp a.tmps)):Sem (List Value)).run P w₁ = .ok xs w₁
 | [], K, e=>⟨[], [], e, trivial, rfl⟩
 | .tmp t :: rs, K, e=>by
  simp only [resV] at e
  obtain ⟨vs, xs, e1, hv, hr⟩:=zmd hT R F rs (fun vs=>K (ρ t :: vs)) e
  refine ⟨ρ t :: vs, a.tmps.getD t undef :: xs, e1, ⟨F t, hv⟩, ?_⟩
  simp only [List.mapM_cons, zjp, Sem.run_bind, Sem.run_pure, Result.andThen_ok, hr]
 | .cell p t :: rs, K, e=>by
  simp only [resV] at e
  obtain ⟨q, hq, e⟩:=yg e
  obtain ⟨q, rfl, e⟩:=zz e
  have hp:=F p
  rw [hq] at hp
  obtain ⟨hok, hp⟩:=hp
  cases hi:T.ti t with
  | none=>rw [hi] at e; cases e
  | some i=>
   rw [hi] at e
   dsimp only at e
   have I:=hT.ti t i hi
   obtain ⟨us, hl, hcell, e⟩:=zct e
   obtain ⟨v, hv, e⟩:=zgd e
   obtain ⟨vs, xs, e1, hvs, hr⟩:=zmd hT R F rs (fun vs=>K (v :: vs)) e
   have hcell':∀ j, j < us.length->h₀.cell (q.add j) = us[j]?:=fun j hj=>by simpa using hcell j (by omega)
   have hlen:us.length = i.size:=by rw [hl, I.shl]
   obtain ⟨ys, hrun, hvr⟩:=zbd (P:=P) R hok.2 hcell'
   have:∃ y, (loadVar t (q.to ι₀)).run P w₁ = .ok y w₁ ∧ VR ι₀ (okOf h₀ X) v y:=by
    cases hag:i.agg with
    | true=>
     rw [hag] at hv
     simp only [if_true] at hv
     rw [hlen] at hrun
     exact ⟨.agg ys, by simp [loadVar, I.run_isAgg, hag, I.run_size, hrun], by rw [hv]; exact ⟨ys, rfl, hvr⟩⟩
    | false=>
     rw [hag] at hv
     simp only [Bool.false_eq_true, if_false] at hv
     subst hv
     have h1:=hcell' 0 (by simp)
     rw [List.getElem?_cons_zero] at h1
     obtain ⟨y, hy, hr, _⟩:=R.cell (a:=q.add 0) hok.2 h1
     have hy':w₁.cell? (q.to ι₀) = some y:=by rw [← zbl] at hy; simpa [Addr.add] using hy
     exact ⟨y, by simp [loadVar, I.run_isAgg, hag, hy'], hr⟩
   obtain ⟨y, hy, hvy⟩:=this
   refine ⟨v :: vs, y :: xs, e1, ⟨hvy, hvs⟩, ?_⟩
   have ha:(asAddr (a.tmps.getD p undef)).run P w₁ = .ok (q.to ι₀) w₁:=by rw [hp]; rfl
   simp only [List.mapM_cons, zjp, Sem.run_bind, Sem.run_pure, Result.andThen_ok, ha, hy, hr]
theorem zkf {ι:Io} {ok:Nat->Prop}:∀ (args:List V) (i:Nat) (xs:List Value) (t:Nat), VRL ι ok args xs->i≤t->VR ι ok (za (idx i args) t) ((xs[t - i]?).getD undef)
 | [], i, [], t, _, _=>trivial
 | v :: args, i, x :: xs, t, h, hi=>by
  show VR ι ok (cond (Nat.beq t i) v (za (idx (i + 1) args) t)) _
  by_cases e:t = i
  ·subst e; simpa using h.1
  ·rw [jx e]
   have:=zkf args (i + 1) xs t h.2 (by omega)
   rw [show t - i = (t - (i + 1)) + 1 by omega, List.getElem?_cons_succ]
   exact this
 | [], _, _ :: _, _, h, _=>h.elim
 | _ :: _, _, [], _, h, _=>h.elim
def oneOf (ys:List Value):Value:=match ys with | [v]=>v | ys=>.tuple ys.toArray
theorem zjh (hm:P.follows .mixedOrders = true) (hX0:∀ i, ¬ X i) (hT:TabOk P T) (hC:zr P T base w0 call) {f:FuncId} {fn:Func} {c:IC} {rs:List ResultVar} (hf:P.funcs[f]? = some fn) (hb:fn.body = some c.code)
  (hname:(fn.name == "runtime.NumGoroutine") = false) (hrs:fn.results.toList = rs) (hic:icOk T fn.ntmps c = true) {args:List V} {xs:Array Value} {κ:Res->M α} {ι:Io} {h:H} {w:World}
  (R:HR T base w0 X ι h w) (hX:∀ i, X i->i < h.next) (hv:VRL ι (okOf h X) args xs.toList) (hsz:args.length≤fn.ntmps) (e:evF T call n c rs args κ h = some out):(callFunc f xs).run P w = .ok (.enter f xs) w ∧ Calls P f xs w fun e w'=>∃ r h' ι', κ r h' = some out ∧ HR T base w0 X ι' h' w' ∧ Went X ι h w ι' h' w' ∧ EndR ι' (okOf h' X) r e:=by
 have hlen:args.length = xs.size:=by simpa using hv.length
 have hname':¬ fn.name = "runtime.NumGoroutine":=by simpa using hname
 refine ⟨by simp [callFunc, hf, hname', hb], calls_of_wp hf hb ?_⟩
 have S:St T base w0 X ⟨fn.ntmps, []⟩ [] ι h w ι h w { tmps:=xs ++ Array.replicate (fn.ntmps - xs.size) undef, defers:=[] }:=
  ⟨R, Went.refl X ι h w, hX0, by simp; omega, fun p hp=>(nomatch hp), rfl⟩
 have F:FR ι (okOf h X) (za (idx 0 args)) { tmps:=xs ++ Array.replicate (fn.ntmps - xs.size) undef, defers:=[] }:=by
  intro t
  have:=zkf args 0 xs.toList t hv (Nat.zero_le _)
  simp only [Nat.sub_zero] at this
  by_cases ht:t < xs.size
  ·have e1:(xs ++ Array.replicate (fn.ntmps - xs.size) undef).getD t undef = (xs.toList[t]?).getD undef:=by
    simp [Array.getD_eq_getD_getElem?, Array.getElem?_append, ht]
   rw [e1]; exact this
  ·have:za (idx 0 args) t = .undef:=by
    have key:∀ (l:List V) (i:Nat), i + l.length≤t->za (idx i l) t = .undef:=by
     intro l
     induction l with
     | nil=>intro i _; rfl
     | cons v l ih=>
      intro i hi
      simp only [List.length_cons] at hi
      show cond (Nat.beq t i) v _ = _
      rw [jx (by omega)]
      exact ih (i + 1) (by omega)
    exact key args 0 (by omega)
   rw [this]; trivial
 refine zdj (N:=⟨fn.ntmps, []⟩) hm hX0 hT hC c hic (zaj c) _ _ ?_ _ h ι _ w S F e
 have out_ok:∀ ρ' h' ι' a' w', resV T rs ρ' (fun vs=>κ (.ret (match vs with | [v]=>v | vs=>.tuple vs))) h' = some out->St T base w0 X ⟨fn.ntmps, []⟩ [] ι h w ι' h' w' a'->FR ι' (okOf h' X) ρ' a' ->
   a'.defers = [] ∧ ∃ v, (results fn a'.tmps).run P w' = .ok v w' ∧ ∃ r h'' ι'', κ r h'' = some out ∧ HR T base w0 X ι'' h'' w' ∧ Went X ι h w ι'' h'' w' ∧ EndR ι'' (okOf h'' X) r (.returned v):=by
  intro ρ' h' ι' a' w' e' S' F'
  obtain ⟨vs, ys, e1, hvs, hr⟩:=zmd hT S'.R F' rs _ e'
  have hrun:(results fn a'.tmps).run P w' = .ok (oneOf ys) w':=by
   have h1:results fn a'.tmps = (do let vs ← fn.results.mapM (zjp a'.tmps); pure (if h:vs.size = 1 then vs[0] else .tuple vs)):=by
    unfold results
    have:∀ f g:ResultVar->Sem Value, (∀ x, f x = g x)->fn.results.mapM f = fn.results.mapM g:=fun f g h=>by rw [funext h]
    rw [this _ (zjp a'.tmps) (fun x=>by cases x <;> rfl)]
   rw [h1]
   simp only [Sem.run_bind, Array.mapM_eq_mapM_toList, Sem.run_map, hrs]
   rw [hr]
   simp only [Result.andThen_ok, Sem.run_pure]
   match ys with
   | []=>rfl
   | [v]=>rfl
   | _ :: _ :: _=>rfl
  refine ⟨S'.df, _, hrun, _, h', ι', e1, S'.R, S'.W, ?_⟩
  match vs, ys, hvs with
  | [], [], _=>exact ⟨#[], rfl, trivial⟩
  | [v], [x], hvs=>exact hvs.1
  | v :: u :: vs, x :: y :: ys, hvs=>exact ⟨(x :: y :: ys).toArray, rfl, by simpa using hvs⟩
  | [v], _ :: _ :: _, hvs=>exact hvs.2.elim
  | _ :: _ :: _, [_], hvs=>exact hvs.2.elim
 refine ⟨out_ok, fun id ρ' h' ι' a' w' e' S' F'=>(by cases e'), out_ok, fun v ρ' h' ι' x a' w' e' S' hv=>⟨S'.df, .pan v, h', ι', e', S'.R, S'.W, x, rfl, hv⟩⟩
theorem jh (hm:P.follows .mixedOrders = true) (hX0:∀ i, ¬ X i) (hT:TabOk P T) (hC:zr P T base w0 call) {f:FuncId} {fn:Func} {c:IC} {rs:List ResultVar} (hf:P.funcs[f]? = some fn) (hb:fn.body = some c.code)
  (hname:(fn.name == "runtime.NumGoroutine") = false) (hrs:fn.results.toList = rs) (hic:icOk T fn.ntmps c = true) {args:List V} {xs:Array Value} {κ:Res->M α} {ι:Io} {h:H} {w:World}
  (R:HR T base w0 X ι h w) (hX:∀ i, X i->i < h.next) (hv:VRL ι (okOf h X) args xs.toList) (hsz:args.length≤fn.ntmps) (e:evF T call n c rs args κ h = some out):zmb P T base w0 X ι h w f xs κ out:=
 .inr (zjh hm hX0 hT hC hf hb hname hrs hic R hX hv hsz e)
end
end Go.Ab
