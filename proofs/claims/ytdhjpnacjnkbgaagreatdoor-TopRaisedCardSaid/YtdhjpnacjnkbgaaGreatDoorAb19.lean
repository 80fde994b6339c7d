import Derived.Test.YtdhjpnacjnkbgaaGreatDoorAb14
import Derived.Recover
set_option linter.unusedVariables false
set_option linter.unusedSimpArgs false
set_option linter.unusedSectionVars false
namespace Go.Ab
section
variable {α:Type}
def nest:List IC->Code->Code
 | [], c=>c
 | a :: as, c=>.seq a.code (nest as c)
noncomputable def zjs (T:Tab) (call:Call α) (n:Nat):List IC->Frame->(Ex->Frame->M α)->(Frame->M α)->M α
 | [], ρ, _, Kn=>Kn ρ
 | a :: as, ρ, K, Kn=>evC T call n a ρ (seqK (fun ρ=>zjs T call n as ρ K Kn) K)
noncomputable def zfx (κ:Res->M α) (vs:List V):M α:=κ (.ret (match vs with | [v]=>v | vs=>.tuple vs))
noncomputable def deferA (T:Tab) (rs:List ResultVar) (κ:Res->M α):Ex->Frame->M α
 | .ret, ρ=>resV T rs ρ (zfx κ)
 | .pan v, _=>κ (.pan v)
 | _, _=>fail
noncomputable def endK (K:M α):Ex->Frame->M α
 | .normal, _=>K
 | .ret, _=>K
 | _, _=>fail
noncomputable def deferB (T:Tab) (call:Call α) (n:Nat) (C:IC) (d0:Nat) (keep:List Nat) (rs:List ResultVar) (caps:List V) (ρ:Frame) (κ:Res->M α):Ex->Frame->M α
 | .normal, ρ'=>evC T call n C ((za (idx 0 caps)).put (some d0) .nilIface) (endK (resV T rs ρ' (zfx κ)))
 | .ret, ρ'=>evC T call n C ((za (idx 0 caps)).put (some d0) .nilIface) (endK (resV T rs ρ' (zfx κ)))
 | .pan v, _=>evC T call n C ((za (idx 0 caps)).put (some d0) v) (endK (resV T rs (zat keep ρ) (zfx κ)))
 | .exit _, _=>fail
noncomputable def zgm (T:Tab) (call:Call α) (n:Nat) (as:List IC) (B C:IC) (g t d0:Nat) (caps:List Operand) (keep:List Nat) (rs:List ResultVar) (args:List V) (κ:Res->M α):M α:=
 zjs T call n as (za (idx 0 args)) (deferA T rs κ) fun ρ=>
  evC T call n B (ρ.put (some t) (.func g [] (caps.map (ev T ρ)))) (deferB T call n C d0 keep rs (caps.map (ev T ρ)) ρ κ)
end
section
variable {α:Type} [Subsingleton α] {P:Program} {T:Tab} {base:Nat} {w0:World} {X:Nat->Prop} {call:Call α} {out:α} {N:Lot} {dfs:List Deferred} {ι₀:Io} {h₀:H} {w₁:World} {n:Nat}
theorem zle (hm:P.follows .mixedOrders = true) (hT:TabOk P T) (hC:jb P T base w0 call) {K:Ex->Frame->M α} {Kn:Frame->M α} {Q:Exit->Act->World->Prop} {rest:Code}
  (p:Post P T base w0 X out N dfs ι₀ h₀ w₁ K Q) (hn:∀ ρ' h' ι' a' w', Kn ρ' h' = some out->St T base w0 X N dfs ι₀ h₀ w₁ ι' h' w' a'->FR ι' (okOf h' X) ρ' a'->rest.wp P Q a' w') :
  ∀ (as:List IC), as.all (icOk T N.n) = true->as.all (zaa (N.kp.map (·.1))) = true->∀ (ρ:Frame) (h:H) (ι:Io) (a:Act) (w:World), St T base w0 X N dfs ι₀ h₀ w₁ ι h w a->FR ι (okOf h X) ρ a ->
   zjs T call n as ρ K Kn h = some out->(nest as rest).wp P Q a w
 | [], _, _, ρ, h, ι, a, w, S, F, e=>hn ρ h ι a w e S F
 | c :: as, h1, h2, ρ, h, ι, a, w, S, F, e=>by
  simp only [List.all_cons, Bool.and_eq_true] at h1 h2
  exact wp_seq (zbp hm hT hC c h1.1 h2.1 _ _ (p.seq fun ρ' h' ι' a' w' e' S' F'=>zle hm hT hC p hn as h1.2 h2.2 ρ' h' ι' a' w' S' F' e') ρ h ι a w S F e)
theorem zhc (args:List V) (xs:Array Value) (m:Nat) {ι:Io} {ok:Nat->Prop} (hv:VRL ι ok args xs.toList) (d:List Deferred):FR ι ok (za (idx 0 args)) { tmps:=xs ++ Array.replicate m undef, defers:=d }:=by
 intro t
 have hlen:args.length = xs.size:=by simpa using hv.length
 have:=zew args 0 xs.toList t hv (Nat.zero_le _)
 simp only [Nat.sub_zero] at this
 by_cases ht:t < xs.size
 ·have e1:(xs ++ Array.replicate m undef).getD t undef = (xs.toList[t]?).getD undef:=by
   simp [Array.getD_eq_getD_getElem?, Array.getElem?_append, ht]
  rw [e1]; exact this
 ·have:za (idx 0 args) t = .undef:=by
   have key:∀ (l:List V) (i:Nat), i + l.length≤t->za (idx i l) t = .undef:=by
    intro l
    induction l with
    | nil=>intro i _; rfl
    | cons v l ih=>
     intro i hi
     simp only [List.length_cons] at hi
     show cond (Nat.beq t i) v _ = _
     rw [zab (by omega)]
     exact ih (i + 1) (by omega)
   exact key args 0 (by omega)
  rw [this]; trivial
theorem zgz (hT:TabOk P T) {fn:Func} {rs:List ResultVar} (hrs:fn.results.toList = rs) {κ:Res->M α} {ι:Io} {h:H} {w:World} {ρ:Frame} {a:Act} (R:HR T base w0 X ι h w) (F:FR ι (okOf h X) ρ a)
  (e:resV T rs ρ (zfx κ) h = some out):∃ v, (results fn a.tmps).run P w = .ok v w ∧ ∃ r, κ r h = some out ∧ EndR ι (okOf h X) r (.returned v):=by
 obtain ⟨vs, ys, e1, hvs, hr⟩:=zgp hT R F rs _ e
 have hrun:(results fn a.tmps).run P w = .ok (oneOf ys) w:=by
  have h1:results fn a.tmps = (do let vs ← fn.results.mapM (zdu a.tmps); pure (if h:vs.size = 1 then vs[0] else .tuple vs)):=by
   unfold results
   have:∀ f g:ResultVar->Sem Value, (∀ x, f x = g x)->fn.results.mapM f = fn.results.mapM g:=fun f g h=>by rw [funext h]
   rw [this _ (zdu a.tmps) (fun x=>by cases x <;> rfl)]
  rw [h1]
  simp only [Sem.run_bind, Array.mapM_eq_mapM_toList, Sem.run_map, hrs]
  rw [hr]
  simp only [Result.andThen_ok, Sem.run_pure]
  match ys with
  | []=>rfl
  | [v]=>rfl
  | _ :: _ :: _=>rfl
 refine ⟨_, hrun, _, e1, ?_⟩
 match vs, ys, hvs with
 | [], [], _=>exact ⟨#[], rfl, trivial⟩
 | [v], [x], hvs=>exact hvs.1
 | v :: u :: vs, x :: y :: ys, hvs=>exact ⟨(x :: y :: ys).toArray, rfl, by simpa using hvs⟩
 | [v], _ :: _ :: _, hvs=>exact hvs.2.elim
 | _ :: _ :: _, [_], hvs=>exact hvs.2.elim
theorem zhz (hm:P.follows .mixedOrders = true) (hT:TabOk P T) (hC:jb P T base w0 call) {g:FuncId} {gn:Func} {C:IC} {idr d0:Nat} {rops:Array Oper} {ro:Oper} {cts:Array TypeId}
  (hg:P.funcs[g]? = some gn) (hgb:gn.body = some (.seq (.region idr rops false) C.code)) (hrs:rops = #[ro]) (hro:ro.op = .call { callee:=.builtin .recover, args:=#[], argTypes:=cts }) (hrd:ro.dst = some d0) (hrg:ro.guard = none)
  (hgr:gn.results = #[]) (hic:icOk T gn.ntmps C = true) (hd0:d0 < gn.ntmps) {caps:List V} {xs:Array Value} {ι:Io} {h:H} {w:World} (R:HR T base w0 X ι h w) (hX:Lft X h) (hv:VRL ι (okOf h X) caps xs.toList) (hsz:caps.length≤gn.ntmps)
  (u u':FrameMode) (v:V) (x:Value) (hx:VR ι (okOf h X) v x) (hrec:∀ (c:Go.Frame) (cs:List Go.Frame), c.mode = u->recoverD (c :: cs) = some (x, { c with mode:=u' } :: cs) ∨ (recoverD (c :: cs) = none ∧ x = .nilIface ∧ u' = u))
  {Kend:M α} (e:evC T call n C ((za (idx 0 caps)).put (some d0) v) (endK Kend) h = some out) :
  CallsD P g xs u w fun en u'' w'=>u'' = u' ∧ (∃ y, en = .returned y) ∧ ∃ h' ι', Kend h' = some out ∧ HR T base w0 X ι' h' w' ∧ Went X ι h w ι' h' w':=by
 have hlen:caps.length = xs.size:=by simpa using hv.length
 refine callsD_of_wpS hg hgb fun c₀ cs hmode=>wpS_seq (wpS_region ?_)
 have hone:List.range rops.size = [0]:=by rw [hrs]; rfl
 have h0:rops[0]? = some ro:=by rw [hrs]; rfl
 have F:=zhc caps xs (gn.ntmps - xs.size) hv []
 generalize ha:({ tmps:=xs ++ Array.replicate (gn.ntmps - xs.size) undef, defers:=[] }:Act) = a at F
 have hasz:a.tmps.size = gn.ntmps:=by rw [← ha]; simp; omega
 have hadf:a.defers = []:=by rw [← ha]
 have hrun:(execOp a.eval ro).run P w = .ok .recover w:=by
  simp [execOp, hro, resolve, invoke, Go.builtin]
 -- what the rest comes to, the caller's mode being so
 have go:∀ (cs':List Go.Frame), cs' = { c₀ with mode:=u' } :: cs->Exit.thenS (C.code.wpS P (bodyPostS P gn c₀ cs fun en u'' w'=>u'' = u' ∧ (∃ y, en = .returned y) ∧ ∃ h' ι', Kend h' = some out ∧ HR T base w0 X ι' h' w' ∧ Went X ι h w ι' h' w'))
   (bodyPostS P gn c₀ cs fun en u'' w'=>u'' = u' ∧ (∃ y, en = .returned y) ∧ ∃ h' ι', Kend h' = some out ∧ HR T base w0 X ι' h' w' ∧ Went X ι h w ι' h' w') .normal (a.put ro.dst x) cs' w:=by
  intro cs' hcs'
  subst hcs'
  refine wpS_of_wp ?_
  have S:St T base w0 X ⟨gn.ntmps, []⟩ [] ι h w ι h w (a.put ro.dst x):=⟨R, Went.refl X ι h w, hX, by rw [zct]; exact hasz, fun p hp=>(nomatch hp), by rw [zhs]; exact hadf⟩
  have F':FR ι (okOf h X) ((za (idx 0 caps)).put (some d0) v) (a.put ro.dst x):=by
   rw [hrd]
   exact F.put hx fun d hd=>by cases hd; rw [hasz]; exact hd0
  have fin:∀ ρ' h' ι' a' w', endK Kend .normal ρ' h' = some out->St T base w0 X ⟨gn.ntmps, []⟩ [] ι h w ι' h' w' a'->FR ι' (okOf h' X) ρ' a' ->
    bodyPostS P gn c₀ cs (fun en u'' w'=>u'' = u' ∧ (∃ y, en = .returned y) ∧ ∃ h' ι', Kend h' = some out ∧ HR T base w0 X ι' h' w' ∧ Went X ι h w ι' h' w') .normal a' ({ c₀ with mode:=u' } :: cs) w':=by
   intro ρ' h' ι' a' w' e' S' F'
   refine ⟨S'.df, u', rfl, .tuple #[], ?_, rfl, ⟨_, rfl⟩, h', ι', e', S'.R, S'.W⟩
   simp [results, hgr]
  refine zbp (N:=⟨gn.ntmps, []⟩) hm hT hC C hic (yk C) _ _ ?_ _ h ι _ w S F' e
  exact ⟨fin, fun id ρ' h' ι' a' w' e' S' F'=>(by cases e'), fun ρ' h' ι' a' w' e' S' F'=>fin ρ' h' ι' a' w' e' S' F', fun v ρ' h' ι' x a' w' e' S' hv=>(by cases e')⟩
 rw [hone]
 simp only [wpOpsS, h0]
 rw [if_pos (by simp [Region.wanted, hrg]), hrun]
 rcases hrec c₀ cs hmode with hr | ⟨hr, rfl, rfl⟩
 ·rw [hr]
  exact go _ rfl
 ·rw [hr]
  exact go _ (by subst hmode; rfl)
theorem zku (hm:P.follows .mixedOrders = true) (hT:TabOk P T) (hC:jb P T base w0 call) {f:FuncId} {fn:Func} {pre:List IC} {B C:IC} {id t:Nat} {ops:Array Oper} {mk df:Oper} {g:FuncId} {caps:List Operand} {dts:Array TypeId}
  {gn:Func} {idr d0:Nat} {rops:Array Oper} {ro:Oper} {cts:Array TypeId} {rs:List ResultVar} {keep:List Nat}
  (hf:P.funcs[f]? = some fn) (hb:fn.body = some (nest pre (.seq (.region id ops false) B.code))) (hname:(fn.name == "runtime.NumGoroutine") = false) (hrs:fn.results.toList = rs)
  (hicA:pre.all (icOk T fn.ntmps) = true) (hicB:icOk T fn.ntmps B = true) (hkB:zaa keep B = true) (hkt:t ∉ keep) (ht:t < fn.ntmps)
  (hops:ops = #[mk, df]) (hmk:mk.op = .makeFunc (.func g) #[] caps.toArray) (hmkd:mk.dst = some t) (hmkg:mk.guard = none) (hdf:df.op = .defer { callee:=.value (.tmp t), args:=#[], argTypes:=dts }) (hdfd:df.dst = none) (hdfg:df.guard = none)
  (hg:P.funcs[g]? = some gn) (hgname:(gn.name == "runtime.NumGoroutine") = false) (hgb:gn.body = some (.seq (.region idr rops false) C.code)) (hrops:rops = #[ro]) (hro:ro.op = .call { callee:=.builtin .recover, args:=#[], argTypes:=cts }) (hrd:ro.dst = some d0) (hrg:ro.guard = none)
  (hgr:gn.results = #[]) (hicC:icOk T gn.ntmps C = true) (hd0:d0 < gn.ntmps) (hcaps:caps.length≤gn.ntmps)
  {args:List V} {xs:Array Value} {κ:Res->M α} {ι:Io} {h:H} {w:World}
  (R:HR T base w0 X ι h w) (hX:Lft X h) (hv:VRL ι (okOf h X) args xs.toList) (hsz:args.length≤fn.ntmps) (e:zgm T call n pre B C g t d0 caps keep rs args κ h = some out):zgi P T base w0 X ι h w f xs κ out:=by
 have hlen:args.length = xs.size:=by simpa using hv.length
 have hname':¬ fn.name = "runtime.NumGoroutine":=by simpa using hname
 have hgname':¬ gn.name = "runtime.NumGoroutine":=by simpa using hgname
 refine .inr ⟨by simp [callFunc, hf, hname', hb], calls_of_wp_defers hf hb ?_⟩
 have F:=zhc args xs (fn.ntmps - xs.size) hv []
 have S:St T base w0 X ⟨fn.ntmps, []⟩ [] ι h w ι h w { tmps:=xs ++ Array.replicate (fn.ntmps - xs.size) undef, defers:=[] }:=⟨R, Went.refl X ι h w, hX, by simp; omega, fun p hp=>(nomatch hp), rfl⟩
 unfold zgm at e
 refine zle (N:=⟨fn.ntmps, []⟩) hm hT hC ?_ ?_ pre hicA (List.all_eq_true.2 fun c _=>yk c) _ h ι _ w S F e
 ·-- handed back ahead of the closure
  refine ⟨fun ρ' h' ι' a' w' e' S' F'=>(by cases e'), fun id ρ' h' ι' a' w' e' S' F'=>(by cases e'), fun ρ' h' ι' a' w' e' S' F'=>?_, fun v ρ' h' ι' x a' w' e' S' hv=>?_⟩
  ·obtain ⟨v, hrun, r, e1, hend⟩:=zgz hT hrs S'.R F' e'
   show Leaves P fn a'.tmps _ a'.defers .returning w'
   rw [S'.df]
   exact ⟨v, hrun, r, h', ι', e1, S'.R, S'.W, hend⟩
  ·show Leaves P fn a'.tmps _ a'.defers (.panicking _) w'
   rw [S'.df]
   exact ⟨.pan v, h', ι', e', S'.R, S'.W, x, rfl, hv⟩
 ·-- the closure is laid down
  intro ρ h1 ι1 a1 w1 e1 S1 F1
  refine wp_seq (wp_region ?_)
  have hrange:List.range ops.size = [0, 1]:=by rw [hops]; rfl
  have h0:ops[0]? = some mk:=by rw [hops]; rfl
  have h1':ops[1]? = some df:=by rw [hops]; rfl
  rw [hrange]
  simp only [wpOps, h0, h1']
  -- the values that it takes along
  have hcv:VRL ι1 (okOf h1 X) (caps.map (ev T ρ)) (caps.map a1.eval):=by
   clear hmk hcaps e1 e
   induction caps with
   | nil=>trivial
   | cons c cs ih=>exact ⟨zhd S1.R F1 c, ih⟩
  have hrun1:(execOp a1.eval mk).run P w1 = .ok (.value (.func (.func g) #[] (caps.map a1.eval).toArray)) w1:=by
   simp [execOp, hmk, Instr.makeFunc]
  rw [if_pos (by simp [Region.wanted, hmkg])]
  refine .inl ?_
  unfold Oper.wp
  rw [hrun1, Oper.upon_value]
  generalize ha2:a1.put mk.dst (.func (.func g) #[] (caps.map a1.eval).toArray) = a2
  have hsz2:a2.tmps.size = fn.ntmps:=by rw [← ha2, zct]; exact S1.sz
  have hget:a2.tmps.getD t undef = .func (.func g) #[] (caps.map a1.eval).toArray:=by
   rw [← ha2, hmkd, zhm (by rw [S1.sz]; exact ht), if_pos rfl]
  have hrun2:(execOp a2.eval df).run P w1 = .ok (.defer { target:=.fn (.func g) (caps.map a1.eval).toArray, args:=#[] }) w1:=by
   have:a2.eval (.tmp t) = .func (.func g) #[] (caps.map a1.eval).toArray:=hget
   simp [execOp, hdf, resolve, this, Deferred.ofValue]
  rw [if_pos (by simp [Region.wanted, hdfg])]
  refine .inl ?_
  rw [hrun2, Oper.upon_defer, hdfd]
  show B.code.wp P _ _ w1
  generalize hd:({ target:=.fn (.func g) (caps.map a1.eval).toArray, args:=#[] }:Deferred) = d
  have F2:FR ι1 (okOf h1 X) (ρ.put (some t) (.func g [] (caps.map (ev T ρ)))) ({ a2 with defers:=d :: a2.defers }.put none undef):=by
   have:=F1.put (dst:=some t) (v:=.func g [] (caps.map (ev T ρ))) (x:=.func (.func g) #[] (caps.map a1.eval).toArray) ⟨#[], (caps.map a1.eval).toArray, rfl, trivial, by simpa using hcv⟩ (fun d hd=>by cases hd; rw [S1.sz]; exact ht)
   rw [← hmkd, ha2] at this
   rw [hmkd] at this
   exact this
  have S2:St T base w0 X ⟨fn.ntmps, keep.map fun t=>(t, a1.tmps.getD t undef)⟩ [d] ι1 h1 w1 ι1 h1 w1 ({ a2 with defers:=d :: a2.defers }.put none undef):=by
   refine ⟨S1.R, Went.refl X ι1 h1 w1, S1.lft, hsz2, fun p hp=>?_, ?_⟩
   ·obtain ⟨s, hs, rfl⟩:=List.mem_map.1 hp
    show a2.tmps.getD s undef = a1.tmps.getD s undef
    rw [← ha2, hmkd]
    exact zbx (fun e=>hkt (by cases e; exact hs))
   ·show d :: a2.defers = [d]
    rw [← ha2, zhs, S1.df]
  have hkeep:zaa ((Lot.mk fn.ntmps (keep.map fun t=>(t, a1.tmps.getD t undef))).kp.map (·.1)) B = true:=by
   have:(keep.map fun t=>(t, a1.tmps.getD t undef)).map (·.1) = keep:=by simp [Function.comp_def]
   show zaa ((keep.map fun t=>(t, a1.tmps.getD t undef)).map (·.1)) B = true
   rw [this]; exact hkB
  -- the closure's call, and what is handed back
  have fin:∀ (u u':FrameMode) (v:V) (x:Value) (ρ':Frame) (h':H) (ι':Io) (a':Act) (w':World), u ≠ .run->settle u' = .returning ->
    (∀ (c:Go.Frame) (cs:List Go.Frame), c.mode = u->recoverD (c :: cs) = some (x, { c with mode:=u' } :: cs) ∨ (recoverD (c :: cs) = none ∧ x = .nilIface ∧ u' = u)) ->
    HR T base w0 X ι' h' w'->Went X ι1 h1 w1 ι' h' w'->VR ι' (okOf h' X) v x->FR ι' (okOf h' X) ρ' a'->evC T call n C ((za (idx 0 (caps.map (ev T ρ)))).put (some d0) v) (endK (resV T rs ρ' (zfx κ))) h' = some out ->
    Leaves P fn a'.tmps (fun e w'=>∃ r h' ι', κ r h' = some out ∧ HR T base w0 X ι' h' w' ∧ Went X ι h w ι' h' w' ∧ EndR ι' (okOf h' X) r e) [d] u w':=by
   intro u u' v x ρ' h' ι' a' w' hu hset hrec R' W' hx F' e'
   subst hd
   have hcv':VRL ι' (okOf h' X) (caps.map (ev T ρ)) (caps.map a1.eval):=hcv.mono W'.io W'.ok
   refine leaves_cons (f:=g) (args:=(caps.map a1.eval).toArray) hu ?_ ?_
   ·simp [invoke, callFunc, hg, hgname', hgb]
   ·refine CallsD.mono (zhz (n:=n) (Kend:=resV T rs ρ' (zfx κ)) hm hT hC hg hgb hrops hro hrd hrg hgr hicC hd0 (caps:=caps.map (ev T ρ)) R' (S1.lft.of W'.next W'.out) (by simpa using hcv') (by simpa using hcaps) u u' v x hx hrec e') ?_
    rintro en u'' w'' ⟨rfl, ⟨y, rfl⟩, h'', ι'', e'', R'', W''⟩
    show Leaves P fn a'.tmps _ [] (settle _) w''
    rw [hset]
    obtain ⟨v, hrun, r, e3, hend⟩:=zgz hT hrs R'' (F'.mono W''.io W''.ok) e''
    exact ⟨v, hrun, r, h'', ι'', e3, R'', (S1.W.trans W').trans W'', hend⟩
  have ret:∀ ρ' h' ι' a' w', evC T call n C ((za (idx 0 (caps.map (ev T ρ)))).put (some d0) .nilIface) (endK (resV T rs ρ' (zfx κ))) h' = some out ->
    St T base w0 X ⟨fn.ntmps, keep.map fun t=>(t, a1.tmps.getD t undef)⟩ [d] ι1 h1 w1 ι' h' w' a'->FR ι' (okOf h' X) ρ' a' ->
    Leaves P fn a'.tmps (fun e w'=>∃ r h' ι', κ r h' = some out ∧ HR T base w0 X ι' h' w' ∧ Went X ι h w ι' h' w' ∧ EndR ι' (okOf h' X) r e) a'.defers .returning w':=by
   intro ρ' h' ι' a' w' e' S' F'
   rw [S'.df]
   refine fin .returning .returning .nilIface .nilIface ρ' h' ι' a' w' (by simp) rfl (fun c cs hc=>.inr ⟨?_, rfl, rfl⟩) S'.R S'.W rfl F' e'
   simp [recoverD, hc]
  refine zbp hm hT hC B hicB hkeep _ _ ?_ _ h1 ι1 _ w1 S2 F2 e1
  refine ⟨ret, fun id ρ' h' ι' a' w' e' S' F'=>(by cases e'), ret, fun v ρ' h' ι' x a' w' e' S' hv=>?_⟩
  show Leaves P fn a'.tmps _ a'.defers (.panicking _) w'
  rw [S'.df]
  refine fin (.panicking [{ v:=x, recovered:=false }]) (.panicking [{ v:=x, recovered:=true }]) v x (zat keep ρ) h' ι' a' w' (by simp) ?_ (fun c cs hc=>.inl ?_) S'.R S'.W hv ?_ e'
  ·simp [settle]
  ·simp [recoverD, hc]
  ·intro s
   by_cases hs:s ∈ keep
   ·have h2:=S'.kp (s, a1.tmps.getD s undef) (List.mem_map.2 ⟨s, hs, rfl⟩)
    rcases zfm keep ρ s with h3 | h3
    rotate_left
    ·rw [h3]; trivial
    rw [h3]
    have h2:a'.tmps.getD s undef = a1.tmps.getD s undef:=h2
    rw [h2]
    exact (F1 s).mono S'.W.io S'.W.ok
   ·have h3:zat keep ρ s = .undef:=zks _ _ fun p hp=>by
     obtain ⟨r, hr, rfl⟩:=List.mem_map.1 hp
     exact fun (e:r = s)=>hs (e ▸ hr)
    rw [h3]; trivial
end
end Go.Ab
