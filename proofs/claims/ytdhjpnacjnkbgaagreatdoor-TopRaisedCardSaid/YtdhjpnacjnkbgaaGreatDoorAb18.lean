import Derived.Test.YtdhjpnacjnkbgaaGreatDoorAb9
import Derived.Calls
set_option linter.unusedVariables false
set_option linter.unusedSimpArgs false
set_option linter.unusedSectionVars false
namespace Go.Ab
def EndR (ι:Io) (ok:Nat->Prop):Res->Ending->Prop
 | .ret v, .returned x=>VR ι ok v x
 | .pan v, .panicked c=>∃ x, c = [{ v:=x, recovered:=false }] ∧ VR ι ok v x
 | _, _=>False
def Lft (X:Nat->Prop) (h:H):Prop:=∀ i, X i->i < h.next ∧ ∀ o v, h.cell ⟨i, o⟩ = some v->oneV v = true
theorem Lft.lt {X:Nat->Prop} {h:H} (L:Lft X h):∀ i, X i->i < h.next:=fun i hi=>(L i hi).1
theorem Lft.of {X:Nat->Prop} {h h':H} (L:Lft X h) (hn:h.next≤h'.next) (hg:∀ i, X i->h'.get i = h.get i):Lft X h':=fun i hi=>
 ⟨Nat.lt_of_lt_of_le (L i hi).1 hn, fun o v hv=>(L i hi).2 o v (by unfold H.cell at hv ⊢; rw [← hg i hi]; exact hv)⟩
theorem Lft.none (h:H):Lft (fun _=>False) h:=fun _ hi=>hi.elim
section
variable {α:Type} (P:Program) (T:Tab) (base:Nat) (w0:World)
def zgi (X:Nat->Prop) (ι:Io) (h:H) (w:World) (g:FuncId) (xs:Array Value) (κ:Res->M α) (out:α):Prop:=
 (∃ r x h' ι' w', κ (.ret r) h' = some out ∧ (callFunc g xs).run P w = .ok (.value x) w' ∧ HR T base w0 X ι' h' w' ∧ Went X ι h w ι' h' w' ∧ VR ι' (okOf h' X) r x) ∨
 ((callFunc g xs).run P w = .ok (.enter g xs) w ∧ Calls P g xs w fun e w'=>∃ r h' ι', κ r h' = some out ∧ HR T base w0 X ι' h' w' ∧ Went X ι h w ι' h' w' ∧ EndR ι' (okOf h' X) r e)
def jb (call:Call α):Prop:=∀ (X:Nat->Prop) (ι:Io) (h:H) (w:World) (g:FuncId) (args:List V) (xs:Array Value) (κ:Res->M α) (out:α),
 Lft X h->HR T base w0 X ι h w->VRL ι (okOf h X) args xs.toList->call g args κ h = some out->zgi P T base w0 X ι h w g xs κ out
def FnOk (call:Call α) (g:FuncId):Prop:=∀ (X:Nat->Prop) (ι:Io) (h:H) (w:World) (args:List V) (xs:Array Value) (κ:Res->M α) (out:α),
 Lft X h->HR T base w0 X ι h w->VRL ι (okOf h X) args xs.toList->call g args κ h = some out->zgi P T base w0 X ι h w g xs κ out
end
def FR (ι:Io) (ok:Nat->Prop) (ρ:Frame) (a:Act):Prop:=∀ t, VR ι ok (ρ t) (a.tmps.getD t undef)
theorem FR.mono {ι ι':Io} {ok ok':Nat->Prop} {ρ:Frame} {a:Act} (hι:∀ i, ok i->ι' i = ι i) (hok:∀ i, ok i->ok' i) (h:FR ι ok ρ a):FR ι' ok' ρ a:=
 fun t=>(h t).mono hι hok
theorem zhm {a:Act} {d t:Nat} {x:Value} (hd:d < a.tmps.size):((a.put (some d) x).tmps).getD t undef = if t = d then x else a.tmps.getD t undef:=by
 simp only [Act.put, Array.getD_eq_getD_getElem?, Array.getElem?_setIfInBounds]
 by_cases h:d = t
 ·subst h; simp [hd]
 ·have:¬ t = d:=fun e=>h e.symm
  simp [h, this]
theorem zct (a:Act) (d:Option Nat) (x:Value):(a.put d x).tmps.size = a.tmps.size:=by
 cases d <;> simp [Act.put]
theorem zhs (a:Act) (d:Option Nat) (x:Value):(a.put d x).defers = a.defers:=by
 cases d <;> rfl
theorem FR.put {ι:Io} {ok:Nat->Prop} {ρ:Frame} {a:Act} {dst:Option Nat} {v:V} {x:Value} (h:FR ι ok ρ a) (hv:VR ι ok v x) (hd:∀ d, dst = some d->d < a.tmps.size) :
  FR ι ok (ρ.put dst v) (a.put dst x):=by
 cases dst with
 | none=>exact h
 | some d=>
  intro t
  rw [zhm (hd d rfl)]
  show VR ι ok (cond (Nat.beq t d) v (ρ t)) _
  by_cases e:t = d
  ·subst e; simpa using hv
  ·rw [zab e, if_neg e]; exact h t
theorem set_same {ρ:Frame} {t:Nat} {v:V} (h:ρ t = v):ρ.set t v = ρ:=by
 funext u
 show cond (Nat.beq u t) v (ρ u) = ρ u
 by_cases e:u = t
 ·subst e; rw [h]; cases Nat.beq u u <;> rfl
 ·rw [zab e]; rfl
theorem zks (l:List (Nat × V)) (t:Nat) (h:∀ p ∈ l, p.1 ≠ t):za l t = .undef:=by
 induction l with
 | nil=>rfl
 | cons p l ih=>
  obtain ⟨u, v⟩:=p
  show cond (Nat.beq t u) v (za l t) = .undef
  rw [zab (fun e=>h (u, v) List.mem_cons_self e.symm)]
  exact ih fun p hp=>h p (List.mem_cons_of_mem _ hp)
theorem zfm (keep:List Nat) (ρ:Frame) (t:Nat):zat keep ρ t = ρ t ∨ zat keep ρ t = .undef:=by
 unfold zat
 induction keep with
 | nil=>exact .inr rfl
 | cons u l ih=>
  show cond (Nat.beq t u) (ρ u) _ = ρ t ∨ cond (Nat.beq t u) (ρ u) _ = .undef
  by_cases e:t = u
  ·subst e; left; simp
  ·rw [zab e]; exact ih
theorem FR.keep {ι:Io} {ok:Nat->Prop} {ρ:Frame} {a:Act} (h:FR ι ok ρ a) (keep:List Nat):FR ι ok (zat keep ρ) a:=by
 intro t
 rcases zfm keep ρ t with e | e <;> rw [e]
 ·exact h t
 ·trivial
section
variable {α:Type} [Subsingleton α] {P:Program} {T:Tab} {base:Nat} {w0:World} {X:Nat->Prop} {ι:Io} {h:H} {w:World} {call:Call α} {ρ:Frame} {out:α}
theorem Went.ok {ι':Io} {h':H} {w':World} (W:Went X ι h w ι' h' w'):∀ i, okOf h X i->okOf h' X i:=fun i hi=>⟨Nat.lt_of_lt_of_le hi.1 W.next, hi.2⟩
theorem Went.io {ι':Io} {h':H} {w':World} (W:Went X ι h w ι' h' w'):∀ i, okOf h X i->ι' i = ι i:=fun i hi=>W.ext i hi.1
structure Lot where
 n:Nat
 kp:List (Nat × Value)
def Lot.has (N:Lot) (t:Nat):Prop:=t < N.n ∧ ∀ p ∈ N.kp, p.1 ≠ t
def zer (l:List Nat) (ops:Array Oper):Bool:=ops.toList.all fun o=>match o.dst with | some d=>l.all fun k=>!(Nat.beq k d) | none=>true
theorem keep_ok {l:List (Nat × Value)} {ops:Array Oper} (h:zer (l.map (·.1)) ops = true) {i:Nat} {o:Oper} {t:Nat} (ho:ops[i]? = some o) (hd:o.dst = some t):∀ p ∈ l, p.1 ≠ t:=by
 unfold zer at h
 rw [List.all_eq_true] at h
 have h1:=h o (Array.mem_toList_iff.2 (Array.mem_of_getElem? ho))
 rw [hd] at h1
 dsimp only at h1
 rw [List.all_eq_true] at h1
 intro p hp he
 have:=h1 p.1 (List.mem_map.2 ⟨p, hp, rfl⟩)
 rw [he, Nat.beq_refl] at this
 cases this
theorem zbx {a:Act} {dst:Option Nat} {x:Value} {t:Nat} (h:dst ≠ some t):(a.put dst x).tmps.getD t undef = a.tmps.getD t undef:=by
 cases dst with
 | none=>rfl
 | some d=>
  have hne:d ≠ t:=fun e=>h (by rw [e])
  simp [Act.put, Array.getD_eq_getD_getElem?, Array.getElem?_setIfInBounds, hne]
structure St (T:Tab) (base:Nat) (w0:World) (X:Nat->Prop) (N:Lot) (d:List Deferred) (ι₀:Io) (h₀:H) (w₁:World) (ι:Io) (h:H) (w:World) (a:Act):Prop where
 R:HR T base w0 X ι h w
 W:Went X ι₀ h₀ w₁ ι h w
 x0:Lft X h₀
 sz:a.tmps.size = N.n
 kp:∀ p ∈ N.kp, a.tmps.getD p.1 undef = p.2
 df:a.defers = d
variable {N:Lot} {d:List Deferred} {ι₀:Io} {h₀:H} {w₁:World} {a:Act}
theorem St.xlt (S:St T base w0 X N d ι₀ h₀ w₁ ι h w a):∀ i, X i->i < h.next:=fun i hi=>Nat.lt_of_lt_of_le (S.x0 i hi).1 S.W.next
theorem St.lft (S:St T base w0 X N d ι₀ h₀ w₁ ι h w a):Lft X h:=S.x0.of S.W.next S.W.out
theorem St.go {ι':Io} {h':H} {w':World} {dst:Option Nat} {x:Value} (S:St T base w0 X N d ι₀ h₀ w₁ ι h w a) (hd:∀ t, dst = some t->N.has t) (R:HR T base w0 X ι' h' w') (W:Went X ι h w ι' h' w') :
  St T base w0 X N d ι₀ h₀ w₁ ι' h' w' (a.put dst x):=
 ⟨R, S.W.trans W, S.x0, by rw [zct]; exact S.sz, fun p hp=>by rw [zbx (fun e=>(hd _ e).2 p hp rfl)]; exact S.kp p hp, by rw [zhs]; exact S.df⟩
theorem St.go' {ι':Io} {h':H} {w':World} (S:St T base w0 X N d ι₀ h₀ w₁ ι h w a) (R:HR T base w0 X ι' h' w') (W:Went X ι h w ι' h' w') :
  St T base w0 X N d ι₀ h₀ w₁ ι' h' w' a:=
 ⟨R, S.W.trans W, S.x0, S.sz, S.kp, S.df⟩
theorem op_wp (hT:TabOk P T) (hC:jb P T base w0 call) {o:Oper} {K E:V->M α} {next:Act->World->Prop} {Q:Exit->Act->World->Prop}
  (hfit:∀ t, o.dst = some t->N.has t) (S:St T base w0 X N d ι₀ h₀ w₁ ι h w a) (hρ:∀ x, VR ι (okOf h X) (ev T ρ x) (a.eval x)) (e:zi T call ρ o K E h = some out)
  (hn:∀ v h' ι' x w', K v h' = some out->St T base w0 X N d ι₀ h₀ w₁ ι' h' w' (a.put o.dst x)->Went X ι h w ι' h' w'->VR ι' (okOf h' X) v x->next (a.put o.dst x) w')
  (hp:∀ v h' ι' x w', E v h' = some out->St T base w0 X N d ι₀ h₀ w₁ ι' h' w' a->VR ι' (okOf h' X) v x->Q (.panic [{ v:=x, recovered:=false }]) a w') :
  o.wp P a w next Q:=by
 unfold Oper.wp
 rcases ziv (P:=P) (fun _=>inferInstance) hT S.R S.xlt hρ e with ⟨v, h', ι', x, w', e1, hr, R', W', hv⟩ | ⟨v, x, e1, hr, hv⟩ | ⟨g, args, xs, hr, hv, e1⟩
 ·rcases hr with hr | ⟨rfl, hr⟩
  ·rw [hr]; exact hn v h' ι' x w' e1 (S.go hfit R' W') W' hv
  ·rw [hr]; exact hn v h' ι' undef w' e1 (S.go hfit R' W') W' hv
 ·rw [hr]; exact hp v h ι x w e1 S hv
 ·rw [hr]
  rcases hC X ι h w g args xs _ out S.lft S.R hv e1 with ⟨r, x, h', ι', w', e2, hr2, R', W', hv'⟩ | ⟨hr2, hcalls⟩
  ·rw [hr2]; exact hn r h' ι' x w' e2 (S.go hfit R' W') W' hv'
  ·rw [hr2]
   refine Calls.mono hcalls ?_
   rintro e w' ⟨r, h', ι', e2, R', W', hend⟩
   cases r with
   | ret v=>
    cases e with
    | returned x=>exact hn v h' ι' x w' e2 (S.go hfit R' W') W' hend
    | _=>exact hend.elim
   | pan v=>
    cases e with
    | panicked c=>
     obtain ⟨x, rfl, hv⟩:=hend
     exact hp v h' ι' x w' e2 (S.go' R' W') hv
    | _=>exact hend.elim
theorem zgv {ops:Array Oper} {tmps:Array Value} {j t:Nat} (hj:zbv ops j = some t) (b:Bool) (hb:tmps.getD t undef = .bool b):yielded ops tmps j = some b:=by
 unfold zbv at hj
 unfold yielded
 cases ho:ops[j]? with
 | none=>rw [ho] at hj; cases hj
 | some o=>
  rw [ho] at hj
  dsimp only at hj
  simp only [Option.bind_some, hj]
  rw [Array.getD_eq_getD_getElem?] at hb
  cases ht:tmps[t]? with
  | none=>rw [ht] at hb; simp [undef] at hb
  | some x=>rw [ht] at hb; simp at hb; simp [hb]
theorem zfv {ops:Array Oper} {tmps:Array Value} {j t:Nat} (hj:zbv ops j = some t) (hb:tmps.getD t undef = .tuple #[]):yielded ops tmps j = none:=by
 unfold zbv at hj
 unfold yielded
 cases ho:ops[j]? with
 | none=>rw [ho] at hj; cases hj
 | some o=>
  rw [ho] at hj
  dsimp only at hj
  simp only [Option.bind_some, hj]
  rw [Array.getD_eq_getD_getElem?] at hb
  cases ht:tmps[t]? with
  | none=>simp
  | some x=>rw [ht] at hb; simp at hb; simp [hb]
theorem zli (hT:TabOk P T) (hC:jb P T base w0 call) {ops:Array Oper} {Q:Exit->Act->World->Prop} {rest:List Oper} {next:Act->World->Prop} {o:Oper} {K:Frame->M α} {E:V->M α}
  (hfit:∀ t, o.dst = some t->N.has t)
  (S:St T base w0 X N d ι₀ h₀ w₁ ι h w a) (F:FR ι (okOf h X) ρ a) (e:zal T call ops (o :: rest) ρ K E h = some out)
  (hn:∀ ρ' h' ι' a' w', zal T call ops rest ρ' K E h' = some out->St T base w0 X N d ι₀ h₀ w₁ ι' h' w' a'->FR ι' (okOf h' X) ρ' a'->next a' w')
  (hp:∀ v h' ι' x w', E v h' = some out->St T base w0 X N d ι₀ h₀ w₁ ι' h' w' a->VR ι' (okOf h' X) v x->Q (.panic [{ v:=x, recovered:=false }]) a w') :
  if Region.wanted o (yielded ops a.tmps) then o.wp P a w next Q else next (a.put o.dst undef) w:=by
 have hsz:∀ t, o.dst = some t->t < a.tmps.size:=fun t ht=>by rw [S.sz]; exact (hfit t ht).1
 have run:∀ {ρ:Frame}, FR ι (okOf h X) ρ a->zi T call ρ o (fun v=>zal T call ops rest (ρ.put o.dst v) K E) E h = some out->o.wp P a w next Q:=by
  intro ρ F e
  refine op_wp hT hC hfit S (fun x=>zhd S.R F x) e (fun v h' ι' x w' e1 S' W' hv=>?_) hp
  exact hn _ h' ι' _ w' e1 S' ((F.mono W'.io W'.ok).put hv hsz)
 have skip:∀ {ρ:Frame}, FR ι (okOf h X) ρ a->zal T call ops rest (ρ.put o.dst (.tuple [])) K E h = some out->next (a.put o.dst undef) w:=by
  intro ρ F e
  exact hn _ h ι _ w e (S.go hfit S.R (Went.refl X ι h w)) (F.put ⟨#[], rfl, trivial⟩ hsz)
 simp only [zal] at e
 cases hg:o.guard with
 | none=>
  rw [hg] at e
  have:Region.wanted o (yielded ops a.tmps) = true:=by simp [Region.wanted, hg]
  rw [if_pos this]
  exact run F e
 | some gw=>
  obtain ⟨j, want⟩:=gw
  rw [hg] at e
  dsimp only at e
  cases ht:zbv ops j with
  | none=>rw [ht] at e; cases e
  | some t=>
   rw [ht] at e
   dsimp only at e
   have hFt:=F t
   generalize hρt:ρ t = u at e hFt
   cases u with
   | bool g=>
    have hy:=zgv (ops:=ops) ht g hFt
    have hw:Region.wanted o (yielded ops a.tmps) = (g == want):=by
     simp only [Region.wanted, hg, hy]
     cases g <;> cases want <;> rfl
    rw [hw]
    dsimp only at e
    have hs:=set_same hρt
    have e':cond (g == want) (zi T call ρ o (fun v=>zal T call ops rest (ρ.put o.dst v) K E) E) (zal T call ops rest (ρ.put o.dst (.tuple [])) K E) h = some out:=by
     cases g
     ·simpa [zif, hs] using e
     ·simpa [zif, hs] using e
    cases hq:(g == want) with
    | true=>rw [hq] at e'; rw [if_pos rfl]; exact run F e'
    | false=>rw [hq] at e'; rw [if_neg (by simp)]; exact skip F e'
   | tuple vs=>
    cases vs with
    | cons _ _=>cases e
    | nil=>
     obtain ⟨arr, harr, hv⟩:=hFt
     have:arr = #[]:=by
      have:=hv.length
      exact Array.eq_empty_of_size_eq_zero (by simpa using this.symm)
     subst this
     have hy:=zfv (ops:=ops) ht harr
     have hw:Region.wanted o (yielded ops a.tmps) = false:=by simp [Region.wanted, hg, hy]
     rw [hw, if_neg (by simp)]
     exact skip F e
   | _=>cases e
theorem zlu (hT:TabOk P T) (hC:jb P T base w0 call) {ops:Array Oper} {Q:Exit->Act->World->Prop} {K:Frame->M α} {E:V->M α}
  (hfit:∀ (i:Nat) (o:Oper) (t:Nat), ops[i]? = some o->o.dst = some t->N.has t)
  (hn:∀ ρ' h' ι' a' w', K ρ' h' = some out->St T base w0 X N d ι₀ h₀ w₁ ι' h' w' a'->FR ι' (okOf h' X) ρ' a'->Q .normal a' w')
  (hp:∀ v h' ι' x a' w', E v h' = some out->St T base w0 X N d ι₀ h₀ w₁ ι' h' w' a'->VR ι' (okOf h' X) v x->Q (.panic [{ v:=x, recovered:=false }]) a' w') :
  ∀ (l:List Nat) (os:List Oper), l.map (fun i=>ops[i]?) = os.map some->∀ (ρ:Frame) (h:H) (ι:Io) (a:Act) (w:World),
   St T base w0 X N d ι₀ h₀ w₁ ι h w a->FR ι (okOf h X) ρ a->zal T call ops os ρ K E h = some out->wpOps P ops Q l a w
 | [], [], _, ρ, h, ι, a, w, S, F, e=>hn ρ h ι a w e S F
 | i :: l, o :: os, hl, ρ, h, ι, a, w, S, F, e=>by
  simp only [List.map_cons, List.cons.injEq] at hl
  simp only [wpOps, hl.1]
  have:=zli (Q:=Q) (next:=wpOps P ops Q l) hT hC (fun t ht=>hfit i o t hl.1 ht) S F e
   (fun ρ' h' ι' a' w' e' S' F'=>zlu hT hC hfit hn hp l os hl.2 ρ' h' ι' a' w' S' F' e') (fun v h' ι' x w' e' S' hv=>hp v h' ι' x a w' e' S' hv)
  split
  ·rename_i hw; rw [if_pos hw] at this; exact .inl this
  ·rename_i hw; rw [if_neg hw] at this; exact this
 | [], _ :: _, hl, _, _, _, _, _, _, _, _=>by simp at hl
 | _ :: _, [], hl, _, _, _, _, _, _, _, _=>by simp at hl
end
end Go.Ab
namespace Go.Ab
theorem zkt {T:Tab} {ρ ρ2:Frame} {x:Operand} (h:∀ t, x = .tmp t->ρ t = ρ2 t):ev T ρ x = ev T ρ2 x:=by
 cases x with
 | tmp t=>exact h t rfl
 | _=>rfl
theorem zjk {α:Type} {T:Tab} {call:Call α} {ρ ρ2:Frame} {K E:V->M α} (o:Oper) (h:∀ x ∈ o.op.operands, ev T ρ x = ev T ρ2 x) :
  zi T call ρ o K E = zi T call ρ2 o K E:=by
 obtain ⟨dst, op, type, pos, after, guard⟩:=o
 have pairs:∀ ps:Array (Nat × Operand), (∀ x ∈ ps.map (·.2), ev T ρ x = ev T ρ2 x) ->
   (ps.toList.map fun (i, x)=>(i, ev T ρ x)) = (ps.toList.map fun (i, x)=>(i, ev T ρ2 x)):=fun ps hp=>
  List.map_congr_left fun p hm=>by
   obtain ⟨i, x⟩:=p
   simp only [hp x (Array.mem_map.2 ⟨(i, x), Array.mem_toList_iff.1 hm, rfl⟩)]
 have lst:∀ ps:Array Operand, (∀ x ∈ ps, ev T ρ x = ev T ρ2 x)->ps.toList.map (ev T ρ) = ps.toList.map (ev T ρ2):=fun ps hp=>
  List.map_congr_left fun x hm=>hp x (Array.mem_toList_iff.1 hm)
 cases op <;> simp only [Op.operands] at h
 case build t ps=>simp only [zi]; rw [pairs ps fun x hx=>h x (by simpa using hx)]
 case buildSlice t n ps=>simp only [zi]; rw [pairs ps fun x hx=>h x (by simpa using hx)]
 case makeFunc fn first captured=>
  cases fn <;> first | rfl | (simp only [zi]; rw [lst first fun x hx=>h x (by simp [hx]), lst captured fun x hx=>h x (by simp [hx])])
 case call c=>
  have ha:=lst c.args fun x hx=>h x (by simp [Call.operands, hx])
  simp only [zi]
  cases hc:c.callee with
  | value f=>have hf:ev T ρ f = ev T ρ2 f:=h f (by simp [Call.operands, hc]); simp only [hf, ha]
  | builtin b=>simp only [ha]
  | invoke r m=>rfl
 case makeMap t r=>cases r <;> rfl
 case slice t x lo hi mx=>
  have e1:ev T ρ x = ev T ρ2 x:=h x (by simp)
  have e2:∀ o:Option Operand, (∀ y, o = some y->ev T ρ y = ev T ρ2 y)->∀ {β:Type} (K:Option Int->M β), oI T ρ o K = oI T ρ2 o K:=by
   intro o ho β K
   cases o with
   | none=>rfl
   | some y=>simp only [oI, ho y rfl]
  have e3:=@e2 lo (fun y hy=>h y (by simp [hy]))
  have e4:=@e2 hi (fun y hy=>h y (by simp [hy]))
  have e5:=@e2 mx (fun y hy=>h y (by simp [hy]))
  simp only [zi, e1, e3, e4, e5]
 case typeAssert x xt t ok=>cases ok <;> first | rfl | (simp only [zi, h x (by simp)])
 all_goals first | rfl | (simp_all [zi]; done)
def PG {γ:Type} (f:∀ β:Type, (γ->M β)->M β):Prop:=∃ r:Option γ, ∀ (β:Type) (K:γ->M β) (h:H), f β K h = match r with | some v=>K v h | none=>none
def PU (f:∀ β:Type, Call β->(V->M β)->(V->M β)->M β):Prop:=
 ∃ r:Option V, ∀ (β:Type) (c:Call β) (K E:V->M β) (h:H), f β c K E h = match r with | some v=>K v h | none=>none
theorem PG.fail {γ:Type}:PG (γ:=γ) fun β K=>Ab.fail:=⟨none, fun _ _ _=>rfl⟩
theorem PG.ret {γ:Type} (v:γ):PG (γ:=γ) fun β K=>K v:=⟨some v, fun _ _ _=>rfl⟩
theorem PG.bind {γ δ:Type} {g:∀ β:Type, (γ->M β)->M β} {f:γ->∀ β:Type, (δ->M β)->M β} (hg:PG g) (hf:∀ x, PG (f x)):PG fun β K=>g β fun x=>f x β K:=by
 obtain ⟨r, hr⟩:=hg
 cases r with
 | none=>exact ⟨none, fun β K h=>hr β _ h⟩
 | some x=>
  obtain ⟨r', hr'⟩:=hf x
  exact ⟨r', fun β K h=>(hr β _ h).trans (hr' β K h)⟩
theorem PU.fail:PU fun β c K E=>Ab.fail:=⟨none, fun _ _ _ _ _=>rfl⟩
theorem PU.ret (v:V):PU fun β c K E=>K v:=⟨some v, fun _ _ _ _ _=>rfl⟩
theorem PU.bind {γ:Type} {g:∀ β:Type, (γ->M β)->M β} {f:γ->∀ β:Type, Call β->(V->M β)->(V->M β)->M β} (hg:PG g) (hf:∀ x, PU (f x)) :
  PU fun β c K E=>g β fun x=>f x β c K E:=by
 obtain ⟨r, hr⟩:=hg
 cases r with
 | none=>exact ⟨none, fun β c K E h=>hr β _ h⟩
 | some x=>
  obtain ⟨r', hr'⟩:=hf x
  exact ⟨r', fun β c K E h=>(hr β _ h).trans (hr' β c K E h)⟩
theorem PU.of {g:∀ β:Type, (V->M β)->M β} (hg:PG g):PU fun β c K E=>g β K:=by
 obtain ⟨r, hr⟩:=hg
 refine ⟨r, fun β c K E h=>?_⟩
 have:=hr β K h
 cases r <;> exact this
theorem PG.need {γ:Type} (b:Bool) {f:∀ β:Type, (γ->M β)->M β} (hf:PG f):PG fun β K=>Ab.need b (f β K):=by
 cases b
 ·exact ⟨none, fun _ _ _=>rfl⟩
 ·exact hf
theorem PG.asI (k:IntKind) (v:V):PG fun β K=>Ab.asI k v K:=by
 cases v <;> first | exact PG.fail | skip
 rename_i j n
 cases h:yc j k
 ·exact ⟨none, fun _ _ _=>by simp [Ab.asI, h, Ab.fail]⟩
 ·exact ⟨some n, fun _ _ _=>by simp [Ab.asI, h]⟩
theorem PG.asB (v:V):PG fun β K=>Ab.asB v K:=by cases v <;> first | exact PG.fail | exact PG.ret _
theorem PG.asStr (v:V):PG fun β K=>Ab.asStr v K:=by cases v <;> first | exact PG.fail | exact PG.ret _
theorem PG.asP (v:V):PG fun β K=>Ab.asP v K:=by cases v <;> first | exact PG.fail | exact PG.ret _
theorem PG.asS (v:V):PG fun β K=>Ab.asS v K:=by cases v <;> first | exact PG.fail | exact PG.ret _
theorem PG.asAgg (v:V):PG fun β K=>Ab.asAgg v K:=by cases v <;> first | exact PG.fail | exact PG.ret _
theorem PG.asNil (v:V):PG fun β K=>Ab.asNil v K:=by cases v <;> first | exact PG.fail | exact PG.ret _
theorem PG.asSome {γ:Type} (a:Option γ):PG fun β K=>Ab.asSome a K:=by cases a <;> first | exact PG.fail | exact PG.ret _
theorem PG.mk (b:Bool) (cs:List V):PG fun β K=>Ab.mk b cs K:=by
 cases b
 ·match cs with
  | []=>exact PG.fail
  | [v]=>exact PG.ret v
  | _ :: _ :: _=>exact PG.fail
 ·exact PG.ret _
theorem PG.part (ti:TI) (cs:List V) (off:Nat):PG fun β K=>Ab.part ti cs off K:=by
 unfold Ab.part
 cases ti.agg
 ·cases cs[off]?
  ·exact PG.fail
  ·exact PG.ret _
 ·exact PG.ret _
theorem PG.asMap (v:V):PG fun β K=>Ab.asMap v K:=by cases v <;> first | exact PG.fail | exact PG.ret _
theorem PG.asSh (s:Sh) (v:V):PG fun β K=>Ab.asSh s v K:=by
 cases s with
 | int k=>exact PG.bind (f:=fun n β (K:V->M β)=>K (.int k n)) (PG.asI k v) fun n=>PG.ret _
 | bool=>exact PG.bind (f:=fun n β (K:V->M β)=>K (.bool n)) (PG.asB v) fun n=>PG.ret _
 | str=>exact PG.bind (f:=fun n β (K:V->M β)=>K (.str n)) (PG.asStr v) fun n=>PG.ret _
 | ptr=>exact PG.bind (f:=fun n β (K:V->M β)=>K (.ptr n)) (PG.asP v) fun n=>PG.ret _
 | slice=>exact PG.bind (f:=fun n β (K:V->M β)=>K (.slice n)) (PG.asS v) fun n=>PG.ret _
 | map=>exact PG.bind (f:=fun n β (K:V->M β)=>K (.map n)) (PG.asMap v) fun n=>PG.ret _
 | any=>exact PG.ret _
theorem PG.shV (b:Bool) (sh:List Sh) (v:V):PG fun β K=>Ab.shV b sh v K:=by
 unfold Ab.shV
 cases b
 ·match sh with
  | []=>exact PG.fail
  | [s]=>exact PG.asSh s v
  | _ :: _ :: _=>exact PG.fail
 ·exact PG.ret _
theorem PG.cat (a b:List UInt8):PG fun β K=>Ab.cat a b K:=PG.need _ (PG.ret _)
theorem PG.idxStr (s:List UInt8) (i:Int):PG fun β K=>Ab.idxStr s i K:=by
 unfold Ab.idxStr
 refine PG.need _ ?_
 cases s[i.toNat]?
 ·exact PG.fail
 ·exact PG.ret _
theorem PG.idxSl (s:Sl) (i:Int) (n:Nat):PG fun β K=>Ab.idxSl s i n K:=by
 unfold Ab.idxSl
 exact PG.bind (PG.asSome _) fun a=>PG.need _ (PG.need _ (PG.ret _))
theorem PG.bnd (x:Int) (y:Nat):PG fun β K=>Ab.bnd x y K:=PG.need _ (PG.need _ (PG.ret _))
theorem PG.oI (T:Tab) (ρ:Frame) (o:Option Operand):PG fun β K=>Ab.oI T ρ o K:=by
 cases o with
 | none=>exact PG.ret _
 | some x=>
  unfold Ab.oI
  dsimp only
  generalize ev T ρ x = u
  cases u <;> first | exact PG.fail | exact PG.ret _
theorem PG.cutStr (s:List UInt8) (lo hi:Option Int):PG fun β K=>Ab.cutStr s lo hi K:=by
 unfold Ab.cutStr
 cases hi <;> cases lo
 ·exact PG.ret _
 ·exact PG.bind (PG.bnd _ _) fun l=>PG.ret _
 ·exact PG.bind (PG.bnd _ _) fun l=>PG.ret _
 ·exact PG.bind (PG.bnd _ _) fun l=>PG.bind (PG.bnd _ _) fun l=>PG.ret _
theorem PG.cutSl (s:Sl) (n:Nat) (lo hi mx:Option Int):PG fun β K=>Ab.cutSl s n lo hi mx K:=by
 unfold Ab.cutSl
 cases mx with
 | some m=>
  cases hi with
  | none=>exact PG.bind (PG.bnd _ _) fun _=>PG.fail
  | some h=>
   cases lo with
   | none=>exact PG.bind (PG.bnd _ _) fun m=>PG.bind (PG.bnd _ _) fun h=>PG.ret _
   | some l=>exact PG.bind (PG.bnd _ _) fun m=>PG.bind (PG.bnd _ _) fun h=>PG.bind (PG.bnd _ _) fun l=>PG.need _ (PG.ret _)
 | none=>
  refine PG.need _ ?_
  cases hi <;> cases lo
  ·exact PG.ret _
  ·exact PG.bind (PG.bnd _ _) fun l=>PG.ret _
  ·exact PG.bind (PG.bnd _ _) fun l=>PG.ret _
  ·exact PG.bind (PG.bnd _ _) fun l=>PG.bind (PG.bnd _ _) fun l=>PG.ret _
theorem PG.arith (op:BinOp) (k:IntKind) (a b:Int):PG fun β K=>Ab.arith op k a b K:=by
 cases op <;> first | exact PG.fail | exact PG.ret _ | exact PG.need _ (PG.ret _)
theorem PG.shift (op:BinOp) (k:IntKind) (a b:Int):PG fun β K=>Ab.shift op k a b K:=by
 unfold Ab.shift
 refine PG.need _ ?_
 cases op <;> first | exact PG.fail | exact PG.ret _
theorem PG.strOp (op:BinOp) (a b:List UInt8):PG fun β K=>Ab.strOp op a b K:=by
 unfold Ab.strOp
 cases op <;> first | exact PG.fail | exact PG.ret _ | exact PG.bind (PG.cat _ _) fun s=>PG.ret _
theorem PG.eqAll (xs ys:List V):PG fun β K=>Ab.eqAll xs ys K:=⟨eqB xs ys, fun β K h=>by
 have:=zhu xs ys K h
 cases hb:eqB xs ys <;> rw [hb] at this <;> exact this⟩
theorem PG.eqV (T:Tab) (t:TypeId) (x y:V):PG fun β K=>Ab.eqV T t x y K:=by
 unfold Ab.eqV
 split <;> first | exact PG.fail | exact PG.need _ (PG.ret _) | skip
 cases T.ti t
 ·exact PG.fail
 ·exact PG.need _ (PG.eqAll _ _)
theorem PG.binNil (T:Tab) (op:BinOp) (t:TypeId) (ox oy:Operand) (x:V):PG fun β (K:V->M β)=>
  Ab.need (isC ox || isC oy) (Ab.need (isK T t 5) (Ab.asNil x fun b=>K (.bool (eqOr op b)))):=PG.need _ (PG.need _ (PG.bind (PG.asNil _) fun b=>PG.ret _))
theorem PG.binEq (T:Tab) (op:BinOp) (t:TypeId) (x y:V):PG fun β (K:V->M β)=>(Ab.eqV T t x y fun b=>K (.bool (eqOr op b))):=PG.bind (PG.eqV _ _ _ _) fun b=>PG.ret _
theorem PG.binOp (T:Tab) (op:BinOp) (t:TypeId) (ox oy:Operand) (x y:V):PG fun β K=>Ab.binOp T op t ox oy x y K:=by
 unfold Ab.binOp
 cases op <;> cases x <;> dsimp only <;> first | exact PG.fail | skip
 all_goals (cases y <;> dsimp only <;> first | exact PG.fail | exact PG.need _ (PG.arith _ _ _ _) | exact PG.strOp _ _ _ | exact PG.shift _ _ _ _ | exact PG.binNil T _ t ox oy _ | exact PG.binEq T _ t _ _)
theorem PG.unOp (op:UnOp) (x:V):PG fun β K=>Ab.unOp op x K:=by
 cases op <;> cases x <;> first | exact PG.fail | exact PG.ret _
theorem PG.fillL (p:Nat->Option (Nat × Nat)):∀ (l:List (Nat × V)) (cs:List V), PG fun β K=>Ab.fillL p cs K l
 | [], cs=>PG.ret _
 | (i, v) :: l, cs=>by
  simp only [Ab.fillL]
  cases p i with
  | none=>exact PG.fail
  | some a=>exact PG.need _ (PG.fillL p l _)
def zbd (T:Tab):Op->Bool
 | .move _ | .assign _ | .pick .. | .build .. | .nilCheck _ | .binOp .. | .unOp .. | .makeInterface .. | .makeFunc .. | .slice .. | .fieldAddr .. | .field .. | .indexAddr .. | .index .. | .typeAssert .. | .extract ..=>true
 | .convert _ d _=>(match T.ti d with | some i=>(match i.und with | .int _=>true | _=>false) | none=>false)
 | .call c=>(match c.callee with
  | .builtin .len=>Nat.blt (zbr T c.argTypes 0) 2
  | .builtin .cap | .builtin .min | .builtin .max=>true
  | _=>false)
 | _=>false
theorem zkz {T:Tab} {ρ:Frame} {o:Oper} (hp:zbd T o.op = true):PU fun β (c:Call β) K E=>zi T c ρ o K E:=by
 obtain ⟨dst, op, type, pos, after, guard⟩:=o
 cases op <;> first | (cases hp; done) | skip
 case move x=>exact PU.ret _
 case assign x=>exact PU.ret _
 case pick c a b=>
  refine PU.bind (PG.asB _) fun g=>?_
  cases g <;> exact PU.ret _
 case build t ps=>
  simp only [zi]
  cases T.ti t with
  | none=>exact PU.fail
  | some i=>
   obtain ⟨und, a1, a2, z, a4, a5, a6⟩:=i
   cases und <;> first | exact PU.fail | skip
   ·rename_i n e
    dsimp only
    cases T.ti e with
    | none=>exact PU.fail
    | some i=>exact PU.bind (PG.fillL _ _ _) fun _=>PU.ret _
   ·exact PU.bind (PG.fillL _ _ _) fun _=>PU.ret _
 case nilCheck x=>
  simp only [zi]
  generalize ev T ρ x = u
  cases u <;> first | exact PU.fail | exact PU.ret _ | exact PU.bind (PG.asSome _) fun _=>PU.ret _
 case binOp op t x y ty=>exact PU.of (PG.binOp T op t x y _ _)
 case unOp op t x=>exact PU.of (PG.unOp op _)
 case makeInterface t x=>
  simp only [zi]
  cases T.ti t with
  | none=>exact PU.fail
  | some i=>
   obtain ⟨und, a1, a2, z, a4, a5, a6⟩:=i
   cases und <;> first | exact PU.fail | exact PU.ret _
 case makeFunc f a b=>cases f <;> first | exact PU.fail | exact PU.ret _
 case slice t x lo hi mx=>
  simp only [zi]
  refine PU.bind (PG.oI _ _ _) fun lo=>PU.bind (PG.oI _ _ _) fun hi=>PU.bind (PG.oI _ _ _) fun mx=>?_
  generalize ev T ρ x = u
  cases T.ti t with
  | none=>
   cases u <;> first | exact PU.fail | skip
   rename_i q
   cases q <;> exact PU.fail
  | some i=>
   obtain ⟨und, a1, a2, z, a4, a5, a6⟩:=i
   cases u <;> first | exact PU.fail | skip
   case str s=>
    cases und <;> first | exact PU.fail | skip
    cases mx <;> first | exact PU.fail | exact PU.bind (PG.cutStr _ _ _) fun _=>PU.ret _
   case slice s=>
    cases und <;> first | exact PU.fail | skip
    rename_i e
    dsimp only
    cases T.ti e with
    | none=>exact PU.fail
    | some i=>exact PU.bind (PG.cutSl _ _ _ _ _) fun _=>PU.ret _
   case ptr q=>
    cases q with
    | none=>exact PU.fail
    | some p=>
    cases und <;> first | exact PU.fail | skip
    rename_i n e
    dsimp only
    cases T.ti e with
    | none=>exact PU.fail
    | some i=>
     cases mx with
     | some _=>exact PU.fail
     | none=>exact PU.bind (PG.cutSl _ _ _ _ _) fun _=>PU.ret _
 case fieldAddr t x n=>
  simp only [zi]
  refine PU.bind (PG.asP _) fun p=>PU.bind (PG.asSome _) fun p=>?_
  cases T.ti t with
  | none=>exact PU.fail
  | some i=>
   obtain ⟨und, a1, a2, z, a4, a5, a6⟩:=i
   cases und <;> first | exact PU.fail | skip
   rename_i fs
   dsimp only
   cases fieldAt T fs n with
   | none=>exact PU.fail
   | some r=>exact PU.of (PG.need _ (PG.ret _))
 case field t x n=>
  simp only [zi]
  cases T.ti t with
  | none=>exact PU.fail
  | some i=>
   obtain ⟨und, a1, a2, z, a4, a5, a6⟩:=i
   cases und <;> first | exact PU.fail | skip
   rename_i fs
   dsimp only
   cases fieldAt T fs n with
   | none=>exact PU.fail
   | some r=>exact PU.bind (PG.asAgg _) fun _=>PU.of (PG.part _ _ _)
 case indexAddr t x ix=>
  simp only [zi]
  generalize ev T ρ ix = v
  cases T.ti t with
  | none=>exact PU.fail
  | some i=>
   obtain ⟨und, a1, a2, z, a4, a5, a6⟩:=i
   cases und <;> first | exact PU.fail | skip
   case array n e=>
    dsimp only
    cases T.ti e <;> cases v <;> first | exact PU.fail | exact PU.bind (PG.asP _) fun p=>PU.bind (PG.asSome _) fun p=>PU.of (PG.need _ (PG.need _ (PG.ret _)))
   case slice e=>
    dsimp only
    cases T.ti e <;> cases v <;> first | exact PU.fail | exact PU.bind (PG.asS _) fun p=>PU.bind (PG.idxSl _ _ _) fun p=>PU.ret _
 case index t x ix=>
  simp only [zi]
  generalize ev T ρ ix = v
  generalize ev T ρ x = u
  cases v <;> first | exact PU.fail | skip
  cases u <;> first | exact PU.fail | skip
  ·cases T.ti t with
   | none=>exact PU.fail
   | some i=>
    obtain ⟨und, a1, a2, z, a4, a5, a6⟩:=i
    cases und <;> first | exact PU.fail | exact PU.bind (PG.idxStr _ _) fun _=>PU.ret _
  ·cases T.ti t with
   | none=>exact PU.fail
   | some i=>
    obtain ⟨und, a1, a2, z, a4, a5, a6⟩:=i
    cases und <;> first | exact PU.fail | skip
    rename_i n e
    dsimp only
    cases T.ti e with
    | none=>exact PU.fail
    | some i=>exact PU.of (PG.need _ (PG.need _ (PG.bind (PG.part _ _ _) fun v=>PG.shV _ _ _)))
 case typeAssert x xt t ok=>
  cases ok with
  | false=>exact PU.fail
  | true=>
   simp only [zi]
   generalize ev T ρ x = u
   cases T.ti t with
   | none=>exact PU.fail
   | some i=>
    have hz:PU fun β c K E=>Ab.mk i.agg i.zero fun z=>K (.tuple [z, .bool false]):=PU.bind (PG.mk _ _) fun _=>PU.ret _
    have hc:∀ v:V, PU fun β c K E=>zhr v t (fun v=>K (.tuple [v, .bool true])) (Ab.mk i.agg i.zero fun z=>K (.tuple [z, .bool false])):=by
     intro v
     cases v <;> first | exact PU.fail | exact hz | skip
     rename_i u w
     simp only [zhr]
     cases Nat.beq u t
     ·exact hz
     ·exact PU.ret _
    obtain ⟨und, a1, a2, z, a4, a5, a6⟩:=i
    cases und <;> first | exact PU.fail | exact hc _
 case extract x n=>
  simp only [zi]
  generalize ev T ρ x = u
  cases u <;> first | exact PU.fail | skip
  rename_i vs
  dsimp only
  cases vs[n]? <;> first | exact PU.fail | exact PU.ret _
 case convert s d x=>
  simp only [zi, conv]
  simp only [zbd] at hp
  generalize ev T ρ x = u
  cases hd:T.ti d with
  | none=>rw [hd] at hp; cases hp
  | some di=>
   rw [hd] at hp
   obtain ⟨und, a1, a2, z, a4, a5, a6⟩:=di
   cases T.ti s with
   | none=>exact PU.fail
   | some si=>
    cases und <;> first | (cases hp; done) | skip
    cases u <;> first | exact PU.fail | exact PU.ret _
 case call c=>
  obtain ⟨callee, args, ats⟩:=c
  simp only [zbd] at hp
  cases callee <;> first | (cases hp; done) | skip
  rename_i b
  simp only [zi]
  generalize args.toList.map (ev T ρ) = vs
  cases b <;> first | (cases hp; done) | skip
  case len=>
   dsimp only at hp
   have hk:zbr T ats 0 < 2:=Nat.lt_of_succ_le (Nat.le_of_ble_eq_true hp)
   match vs with
   | []=>exact PU.fail
   | [v]=>
    cases v <;> first | exact PU.fail | exact PU.of (PG.need _ (PG.ret _)) | skip
    rename_i r
    have:Nat.beq (zbr T ats 0) 2 = false:=zab (by omega)
    exact ⟨none, fun β c K E h=>by simp [Ab.builtin, this, Ab.need, Ab.fail]⟩
   | v :: _ :: _=>cases v <;> exact PU.fail
  case cap=>
   match vs with
   | []=>exact PU.fail
   | [v]=>cases v <;> first | exact PU.fail | exact PU.of (PG.need _ (PG.need _ (PG.ret _)))
   | v :: _ :: _=>cases v <;> exact PU.fail
  case max=>
   match vs with
   | []=>exact PU.fail
   | [v]=>cases v <;> exact PU.fail
   | [v, u]=>cases v <;> cases u <;> first | exact PU.fail | exact PU.of (PG.need _ (PG.ret _))
   | v :: u :: _ :: _=>cases v <;> cases u <;> exact PU.fail
  case min=>
   match vs with
   | []=>exact PU.fail
   | [v]=>cases v <;> exact PU.fail
   | [v, u]=>cases v <;> cases u <;> first | exact PU.fail | exact PU.of (PG.need _ (PG.ret _))
   | v :: u :: _ :: _=>cases v <;> cases u <;> exact PU.fail
end Go.Ab
namespace Go.Ab
section
variable {ι ι' ι'':Io} {ok ok' ok'':Nat->Prop}
theorem SlR.join (hj:∀ i, ok i->ι'' i = ι' i ∧ ok'' i) {s:Sl} {x₀ x:Value} (h0:SlR ι ok s x₀) (h:SlR ι' ok' s x):SlR ι'' ok'' s x:=by
 unfold SlR at *
 cases hs:s.ad with
 | none=>simp only [hs] at h ⊢; exact h
 | some a=>
  simp only [hs] at h0 h ⊢
  obtain ⟨h1, h2⟩:=hj _ h0.1
  obtain ⟨_, b, c, hx, hb, hl, hc⟩:=h
  refine ⟨h2, b, c, hx, ?_, hl, ?_⟩
  ·rcases hb with hb | hb
   ·exact .inl hb
   ·exact .inr (by rw [hb]; simp [Ad.to, h1])
  ·cases hl:s.loose with
   | none=>simp only [hl] at hc ⊢; exact hc
   | some e=>simp only [hl] at hc ⊢; rw [h1]; exact hc
mutual
theorem VR.join (hj:∀ i, ok i->ι'' i = ι' i ∧ ok'' i):∀ {v:V} {x₀ x:Value}, VR ι ok v x₀->VR ι' ok' v x->VR ι'' ok'' v x
 | .undef, _, _, _, _=>trivial
 | .bool _, _, _, _, h=>h
 | .int _ _, _, _, _, h=>h
 | .str _, _, _, _, h=>h
 | .ptr none, _, _, _, h=>h
 | .ptr (some a), _, _, h0, h=>by obtain ⟨h1, h2⟩:=hj _ h0.1; exact ⟨h2, by rw [h.2]; simp [Ad.to, h1]⟩
 | .slice _, _, _, h0, h=>SlR.join hj h0 h
 | .map none, _, _, _, h=>h
 | .map (some r), _, _, h0, h=>by obtain ⟨h1, h2⟩:=hj _ h0.1; exact ⟨h2, by rw [h.2, h1]⟩
 | .func _ _ _, _, _, ⟨_, _, _, h1, h2⟩, ⟨a, b, hx, ha, hb⟩=>⟨a, b, hx, VRL.join hj h1 ha, VRL.join hj h2 hb⟩
 | .nilFunc, _, _, _, h=>h
 | .iface _ _, _, _, ⟨_, _, h0⟩, ⟨y, hx, hy⟩=>⟨y, hx, VR.join hj h0 hy⟩
 | .nilIface, _, _, _, h=>h
 | .agg _, _, _, ⟨_, _, h0⟩, ⟨a, hx, ha⟩=>⟨a, hx, VRL.join hj h0 ha⟩
 | .tuple _, _, _, ⟨_, _, h0⟩, ⟨a, hx, ha⟩=>⟨a, hx, VRL.join hj h0 ha⟩
theorem VRL.join (hj:∀ i, ok i->ι'' i = ι' i ∧ ok'' i):∀ {vs:List V} {xs₀ xs:List Value}, VRL ι ok vs xs₀->VRL ι' ok' vs xs->VRL ι'' ok'' vs xs
 | [], [], [], _, _=>trivial
 | _ :: _, _ :: _, _ :: _, ⟨h0, g0⟩, ⟨h, g⟩=>⟨VR.join hj h0 h, VRL.join hj g0 g⟩
 | [], _, _ :: _, _, h=>h.elim
 | _ :: _, _, [], _, h=>h.elim
 | _ :: _, [], _ :: _, h0, _=>h0.elim
 | [], _ :: _, [], h0, _=>trivial
end
end
theorem BlkR.join {ι ι' ι'':Io} {ok ok' ok'':Nat->Prop} {base:Nat} {w₀ w:World} {p₀ p:Pl} {b:Blk} (hj:∀ i, ok i->ι'' i = ι' i ∧ ok'' i)
  (h0:BlkR ι ok base w₀ p₀ b) (hb:BlkR ι' ok' base w p b):BlkR ι'' ok'' base w p b:=by
 cases b with
 | cells cs own=>
  obtain ⟨_, _, _, _, _, _, g3, _⟩:=h0
  obtain ⟨arr, elem, lo, hi, h1, h2, h3, h4, h5⟩:=hb
  exact ⟨arr, elem, lo, hi, h1, h2, VRL.join hj g3 h3, h4, h5⟩
 | cellsT t full cs=>
  obtain ⟨_, _, _, _, _, g3, _⟩:=h0
  obtain ⟨arr, h1, h2, h3, h4, h5, h6⟩:=hb
  exact ⟨arr, h1, h2, h3, h4, VRL.join hj g3 h5, h6⟩
 | map es=>
  obtain ⟨_, _, _, _, g3, g4, _⟩:=h0
  obtain ⟨ces, clock, h1, h2, h3, h4, h5⟩:=hb
  exact ⟨ces, clock, h1, h2, VRL.join hj g3 h3, VRL.join hj g4 h4, h5⟩
 | iter x=>
  obtain ⟨_, _, h3⟩:=h0
  obtain ⟨g1, g2, g3⟩:=hb
  refine ⟨g1, g2, ?_⟩
  cases x with
  | map m n seen last=>
   obtain ⟨_, _, k2, _⟩:=h3
   obtain ⟨sn, l1, l2, l3⟩:=g3
   refine ⟨sn, ?_, fun r hr=>(hj r (k2 r hr)).2, l3⟩
   rw [l1]
   cases m with
   | none=>rfl
   | some r=>simp only [Option.map_some, (hj r (k2 r rfl)).1]
  | str s pos=>exact g3
section
variable {T:Tab} {base:Nat} {w0:World} {X:Nat->Prop} {ι:Io} {h:H} {w:World}
theorem yd (h:H) (b:Blk) (j:Nat):(h.push b).get j = if j = h.next then some b else h.get j:=by
 by_cases e:j = h.next
 ·subst e; rw [je, if_pos rfl]
 ·rw [if_neg e, yb h b e]
theorem HR.reserve (R:HR T base w0 X ι h w) (b:Blk):HR T base w0 (fun i=>X i ∨ i = h.next) ι (h.push b) w:=by
 have hg:∀ i c, ¬ (X i ∨ i = h.next)->(h.push b).get i = some c->¬ X i ∧ h.get i = some c:=by
  intro i c hx hc
  rw [yd, if_neg (fun e=>hx (.inr e))] at hc
  exact ⟨fun e=>hx (.inl e), hc⟩
 refine ⟨R.size, R.old, fun i c hc=>?_, fun i c hx hc=>?_, fun i j c d hx hy hc hd=>?_, fun g i hi=>?_, R.env⟩
 ·rw [yd] at hc
  show i < h.next + 1
  split at hc
  ·omega
  ·have:=R.dom i c hc; omega
 ·obtain ⟨hx, hc⟩:=hg i c hx hc
  refine (R.blk i c hx hc).mono (fun _ _=>rfl) (fun j hj=>⟨Nat.lt_succ_of_lt hj.1, fun e=>?_⟩) rfl
  rcases e with e | e
  ·exact hj.2 e
  ·have:=hj.1; omega
 ·obtain ⟨hx, hc⟩:=hg i c hx hc
  obtain ⟨hy, hd⟩:=hg j d hy hd
  exact R.inj i j c d hx hy hc hd
 ·obtain ⟨h1, h2, h3⟩:=R.glob g i hi
  refine ⟨Nat.lt_succ_of_lt h1, fun e=>?_, h3⟩
  rcases e with e | e
  ·exact h2 e
  ·omega
theorem HR.claim (R:HR T base w0 X ι h w) {id:Nat} {cs:List V} {ι':Io} {w':World} (hid:X id) (hX:∀ i, X i->i < h.next) (hb:h.get id = some (.cells cs true)) (hf:∃ xs, VRL ι (fun i=>i < h.next ∧ ¬ X i) cs xs)
  (R':HR T base w0 X ι' (h.push (.cells cs true)) w') (hι:∀ i, i < h.next->ι' i = ι i):HR T base w0 (fun i=>X i ∧ i ≠ id) (fun i=>if i = id then ι' h.next else ι' i) h w':=by
 have hlt:=hX id hid
 have hxn:¬ X h.next:=fun hx=>absurd (hX _ hx) (Nat.lt_irrefl _)
 have hnew:(h.push (.cells cs true)).get h.next = some (.cells cs true):=by rw [yd, if_pos rfl]
 have hold:∀ i c, h.get i = some c->(h.push (.cells cs true)).get i = some c:=by
  intro i c hc
  rw [yd, if_neg (by have:=R.dom i c hc; omega)]; exact hc
 have hj:∀ i, i < h.next ∧ ¬ X i->(if i = id then ι' h.next else ι' i) = ι' i ∧ (i < h.next ∧ ¬ (X i ∧ i ≠ id)):=by
  intro i hi
  refine ⟨if_neg (fun (e:i = id)=>hi.2 (by rw [e]; exact hid)), hi.1, fun e=>hi.2 e.1⟩
 -- the place that a number stands for behind the step
 have look:∀ i c, ¬ (X i ∧ i ≠ id)->h.get i = some c->∃ k, ¬ X k ∧ (h.push (.cells cs true)).get k = some c ∧ (if i = id then ι' h.next else ι' i) = ι' k ∧ (i = id ∧ k = h.next ∨ i ≠ id ∧ k = i ∧ ¬ X i):=by
  intro i c hx hc
  by_cases e:i = id
  ·subst e
   rw [hb] at hc
   cases hc
   exact ⟨h.next, hxn, hnew, if_pos rfl, .inl ⟨rfl, rfl⟩⟩
  ·have hx':¬ X i:=fun h=>hx ⟨h, e⟩
   exact ⟨i, hx', hold i c hc, if_neg e, .inr ⟨e, rfl, hx'⟩⟩
 refine ⟨R'.size, R'.old, R.dom, fun i c hx hc=>?_, fun i j c d hx hy hc hd ho1 ho2 hcb=>?_, fun g i hi=>?_, R'.env⟩
 ·obtain ⟨k, hk, hkc, hik, hcase⟩:=look i c hx hc
  show BlkR _ _ base w' (if i = id then ι' h.next else ι' i) c
  rw [hik]
  have hR':=R'.blk k c hk hkc
  rcases hcase with ⟨e, ek⟩ | ⟨e, ek, hx'⟩
  ·subst e
   rw [hb] at hc
   cases hc
   obtain ⟨arr, elem, lo, hi, h1, h2, h3, h4, h5⟩:=hR'
   exact ⟨arr, elem, lo, hi, h1, h2, VRL.join hj hf.choose_spec h3, h4, h5⟩
  ·exact BlkR.join hj (R.blk i c hx' hc) hR'
 ·obtain ⟨k, hk, hkc, hik, hcase⟩:=look i c hx hc
  obtain ⟨l, hl, hld, hjl, hcase'⟩:=look j d hy hd
  have hcb':(if i = id then ι' h.next else ι' i).cb = (if j = id then ι' h.next else ι' j).cb:=hcb
  rw [hik, hjl] at hcb'
  have:=R'.inj k l c d hk hl hkc hld ho1 ho2 hcb'
  subst this
  rcases hcase with ⟨e, ek⟩ | ⟨e, ek, _⟩ <;> rcases hcase' with ⟨e', ek'⟩ | ⟨e', ek', _⟩
  ·rw [e, e']
  ·exfalso; have:=R.dom j d hd; omega
  ·exfalso; have:=R.dom i c hc; omega
  ·rw [← ek, ← ek']
 ·obtain ⟨h1, h2, h3, h4⟩:=R.glob g i hi
  obtain ⟨g1, g2, g3, g4⟩:=R'.glob g i hi
  have hne:i ≠ id:=fun e=>h2 (e ▸ hid)
  refine ⟨h1, fun e=>h2 e.1, ?_, ?_⟩
  ·show (if i = id then ι' h.next else ι' i).cb = g; rw [if_neg hne]; exact g3
  ·show (if i = id then ι' h.next else ι' i).sh = 0; rw [if_neg hne]; exact g4
structure WentX (X Y:Nat->Prop) (ι₀:Io) (h₀:H) (w₁:World) (ι:Io) (h:H) (w:World):Prop where
 ext:∀ i, i < h₀.next->ι i = ι₀ i
 next:h₀.next≤h.next
 out:∀ i, X i->h.get i = h₀.get i
 size:w₁.heap.size≤w.heap.size
 kept:∀ b, b < w₁.heap.size->(∀ i c, ¬ X i->h₀.get i = some c->c.own = true->(ι₀ i).cb ≠ b)->w.heap[b]? = w₁.heap[b]?
 org:∀ i c, ¬ Y i->h.get i = some c->c.own = true->w₁.heap.size≤(ι i).cb ∨ ∃ j d, ¬ X j ∧ h₀.get j = some d ∧ d.own = true ∧ (ι₀ j).cb = (ι i).cb
variable {ι₀:Io} {h₀:H} {w₁:World} {Y:Nat->Prop}
theorem WentX.of (W:Went X ι₀ h₀ w₁ ι h w):WentX X X ι₀ h₀ w₁ ι h w:=⟨W.ext, W.next, W.out, W.size, W.kept, W.org⟩
theorem WentX.to (W:WentX X X ι₀ h₀ w₁ ι h w):Went X ι₀ h₀ w₁ ι h w:=⟨W.ext, W.next, W.out, W.size, W.kept, W.org⟩
theorem WentX.trans {ι':Io} {h':H} {w':World} (hXY:∀ i, X i->Y i) (W:WentX X Y ι₀ h₀ w₁ ι h w) (V:Went Y ι h w ι' h' w'):WentX X Y ι₀ h₀ w₁ ι' h' w':=by
 refine ⟨fun i hi=>?_, Nat.le_trans W.next V.next, fun i hi=>(V.out i (hXY i hi)).trans (W.out i hi), Nat.le_trans W.size V.size, fun b hb hn=>?_, fun i c hx hc ho=>?_⟩
 ·rw [V.ext i (Nat.lt_of_lt_of_le hi W.next), W.ext i hi]
 ·rw [V.kept b (Nat.lt_of_lt_of_le hb W.size) ?_, W.kept b hb hn]
  intro i c hx hc ho he
  rcases W.org i c hx hc ho with hge | ⟨j, d, hj, hd, ho', hcb⟩
  ·omega
  ·exact hn j d hj hd ho' (by rw [hcb, he])
 ·rcases V.org i c hx hc ho with hge | ⟨j, d, hj, hd, ho', hcb⟩
  ·exact .inl (Nat.le_trans W.size hge)
  ·rcases W.org j d hj hd ho' with hge | ⟨l, f, hl, hf, hof, hcb'⟩
   ·exact .inl (by rw [← hcb]; exact hge)
   ·exact .inr ⟨l, f, hl, hf, hof, by rw [hcb', hcb]⟩
theorem WentX.reserve (hX0:∀ i, X i->i < h₀.next) (W:WentX X Y ι₀ h₀ w₁ ι h w) (b:Blk):WentX X (fun i=>Y i ∨ i = h.next) ι₀ h₀ w₁ ι (h.push b) w:=by
 refine ⟨W.ext, Nat.le_succ_of_le W.next, fun i hi=>?_, W.size, W.kept, fun i c hx hc ho=>?_⟩
 ·rw [yd, if_neg (by have:=hX0 i hi; have:=W.next; omega)]; exact W.out i hi
 ·rw [yd, if_neg (fun e=>hx (.inr e))] at hc
  exact W.org i c (fun e=>hx (.inl e)) hc ho
theorem WentX.claim (hXY:∀ i, X i->Y i) (W:WentX X Y ι₀ h₀ w₁ ι h w) {id:Nat} {cs:List V} {ι':Io} {w':World} (hid:Y id) (hX:∀ i, Y i->i < h.next) (h0:h₀.next≤id) (hb:h.get id = some (.cells cs true)) (hd:∀ i c, h.get i = some c->i < h.next)
  (V:Went Y ι h w ι' (h.push (.cells cs true)) w'):WentX X (fun i=>Y i ∧ i ≠ id) ι₀ h₀ w₁ (fun i=>if i = id then ι' h.next else ι' i) h w':=by
 have W':=W.trans hXY V
 refine ⟨fun i hi=>?_, W.next, W.out, W'.size, W'.kept, fun i c hx hc ho=>?_⟩
 ·show (if i = id then ι' h.next else ι' i) = ι₀ i
  rw [if_neg (by omega)]; exact W'.ext i hi
 ·have hxn:¬ Y h.next:=fun hx=>absurd (hX _ hx) (Nat.lt_irrefl _)
  by_cases e:i = id
  ·subst e
   rw [hb] at hc
   cases hc
   have:=W'.org h.next (.cells cs true) hxn (by rw [yd, if_pos rfl]) rfl
   show _≤(if i = i then ι' h.next else ι' i).cb ∨ ∃ j d, _ ∧ _ ∧ _ ∧ _ = (if i = i then ι' h.next else ι' i).cb
   rw [if_pos rfl]; exact this
  ·have hx':¬ Y i:=fun h=>hx ⟨h, e⟩
   have:=W'.org i c hx' (by rw [yd, if_neg (by have:=hd i c hc; omega)]; exact hc) ho
   show _≤(if i = id then ι' h.next else ι' i).cb ∨ ∃ j d, _ ∧ _ ∧ _ ∧ _ = (if i = id then ι' h.next else ι' i).cb
   rw [if_neg e]; exact this
end
end Go.Ab
