import Derived.Test.YtdhjpnacjnkbgaaGreatDoorAb3
set_option linter.unusedVariables false
set_option linter.unusedSimpArgs false
set_option linter.unusedSectionVars false
namespace Go.Ab
theorem eq1_eq {α:Type} (x y:V) (K:Bool->M α) (h:H):eq1 x y K h = match eq1B x y with | some b=>K b h | none=>none:=by
 unfold eq1 eq1B
 split
 ·rename_i j a k b
  simp only [need]
  cases yc j k <;> rfl
 ·rfl
 ·rfl
 ·split <;> simp_all <;> rfl
theorem zhu {α:Type}:∀ (xs ys:List V) (K:Bool->M α) (h:H), eqAll xs ys K h = match eqB xs ys with | some b=>K b h | none=>none
 | [], [], K, h=>rfl
 | x :: xs, y :: ys, K, h=>by
  simp only [eqAll, eqB, eq1_eq]
  cases eq1B x y with
  | none=>rfl
  | some b=>
   simp only [zhu xs ys]
   cases eqB xs ys <;> rfl
 | [], _ :: _, K, h=>rfl
 | _ :: _, [], K, h=>rfl
structure TIOk (P:Program) (t:TypeId) (i:TI):Prop where
 und:P.underlying t = some i.und
 info:∃ inf z, P.info? t = some inf ∧ inf.size = i.size ∧ inf.bytes = i.bytes ∧ inf.zero = some z ∧ (∀ ι ok, VRL ι ok i.zero z.cells.toList) ∧
  (i.agg = true->∃ cs, z = .agg cs) ∧ (i.agg = false->z.cells = #[z])
 agg:i.agg = (match i.und with | .struct _=>true | .array _ _=>true | _=>false)
 shl:i.sh.length = i.size
 zl:i.zero.length = i.size
 one:i.agg = false->i.size = 1
 fld:∀ fs, i.und = .struct fs->∀ f ∈ fs.toList, ∃ inf, P.info? f.type = some inf
 plain:i.plain = true->P.eqGuardType P.depth t = false ∧ ∀ (xs ys:Array Value) (w:World) (b:Bool),
  (∀ ι ok (vs us:List V), jv i.sh vs = true->VRL ι ok vs xs.toList->VRL ι ok us ys.toList->eqB vs us = some b ->
   (Op.equal t (.agg xs) (.agg ys)).run P w = .ok b w)
 key:i.plain = true->(∃ fs, i.und = .struct fs)->(∃ fs, P.underlying t = some (.struct fs)) ∧ ∀ (b:Bool) (ι:Io) (ok:Nat->Prop) (vs:List V) (xs:Array Value) (w:World),
  jv i.sh vs = true->VRL ι ok vs xs.toList->(Instr.checkKey b 10000 t (.agg xs)).run P w = .ok () w
structure TabOk (P:Program) (T:Tab):Prop where
 ti:∀ t i, T.ti t = some i->TIOk P t i
section
variable {P:Program} {t:TypeId} {i:TI} {w:World}
theorem TIOk.run_und (h:TIOk P t i):(underlying t).run P w = .ok i.und w:=by simp [underlying, h.und]
theorem TIOk.run_info (h:TIOk P t i):∃ inf z, (typeInfo t).run P w = .ok inf w ∧ inf.size = i.size ∧ inf.bytes = i.bytes ∧ inf.zero = some z ∧
  (∀ ι ok, VRL ι ok i.zero z.cells.toList) ∧ (i.agg = true->∃ cs, z = .agg cs) ∧ (i.agg = false->z.cells = #[z]):=by
 obtain ⟨inf, z, h1, h2⟩:=h.info
 exact ⟨inf, z, by simp [typeInfo, h1], h2⟩
theorem TIOk.run_size (h:TIOk P t i):(sizeOf t).run P w = .ok i.size w:=by
 obtain ⟨inf, z, h1, h2, _⟩:=h.run_info (w:=w)
 simp [sizeOf, h1, h2]
theorem TIOk.run_zero (h:TIOk P t i):∃ z, (zeroValue t).run P w = .ok z w ∧ (∀ ι ok, VRL ι ok i.zero z.cells.toList) ∧
  (i.agg = true->∃ cs, z = .agg cs) ∧ (i.agg = false->z.cells = #[z]):=by
 obtain ⟨inf, z, h1, _, _, h4, h5⟩:=h.run_info (w:=w)
 exact ⟨z, by simp [zeroValue, h1, h4], h5⟩
theorem TIOk.run_isAgg (h:TIOk P t i):(isAgg t).run P w = .ok i.agg w:=by
 simp only [isAgg, Sem.run_bind, h.run_und, Result.andThen_ok]
 rw [h.agg]
 cases i.und <;> rfl
end
section
variable {α:Type} {out:α} {h:H}
theorem zg {b:Bool} {K:M α} (e:need b K h = some out):b = true ∧ K h = some out:=by
 cases b
 ·cases e
 ·exact ⟨rfl, e⟩
theorem zk {k:IntKind} {v:V} {K:Int->M α} (e:asI k v K h = some out):∃ n, v = .int k n ∧ K n h = some out:=by
 unfold asI at e
 split at e
 ·rename_i j n
  cases j <;> cases k <;> first | exact ⟨n, rfl, e⟩ | cases e
 ·cases e
theorem zem {v:V} {K:Bool->M α} (e:asB v K h = some out):∃ b, v = .bool b ∧ K b h = some out:=by
 unfold asB at e; split at e
 ·exact ⟨_, rfl, e⟩
 ·cases e
theorem zbn {v:V} {K:List UInt8->M α} (e:asStr v K h = some out):∃ b, v = .str b ∧ K b h = some out:=by
 unfold asStr at e; split at e
 ·exact ⟨_, rfl, e⟩
 ·cases e
theorem jz {v:V} {K:Option Ad->M α} (e:asP v K h = some out):∃ b, v = .ptr b ∧ K b h = some out:=by
 unfold asP at e; split at e
 ·exact ⟨_, rfl, e⟩
 ·cases e
theorem jm {v:V} {K:Sl->M α} (e:asS v K h = some out):∃ b, v = .slice b ∧ K b h = some out:=by
 unfold asS at e; split at e
 ·exact ⟨_, rfl, e⟩
 ·cases e
theorem zcd {v:V} {K:Option Nat->M α} (e:asMap v K h = some out):∃ b, v = .map b ∧ K b h = some out:=by
 unfold asMap at e; split at e
 ·exact ⟨_, rfl, e⟩
 ·cases e
theorem jf {v:V} {K:List V->M α} (e:asAgg v K h = some out):∃ b, v = .agg b ∧ K b h = some out:=by
 unfold asAgg at e; split at e
 ·exact ⟨_, rfl, e⟩
 ·cases e
theorem jk {β:Type} {a:Option β} {K:β->M α} (e:asSome a K h = some out):∃ b, a = some b ∧ K b h = some out:=by
 unfold asSome at e; split at e
 ·exact ⟨_, rfl, e⟩
 ·cases e
theorem zch {s:Sh} {v:V} {K:V->M α} (e:asSh s v K h = some out):K v h = some out:=by
 cases s <;> simp only [asSh] at e
 ·obtain ⟨n, rfl, e'⟩:=zk e; exact e'
 ·obtain ⟨n, rfl, e'⟩:=zem e; exact e'
 ·obtain ⟨n, rfl, e'⟩:=zbn e; exact e'
 ·obtain ⟨n, rfl, e'⟩:=jz e; exact e'
 ·obtain ⟨n, rfl, e'⟩:=jm e; exact e'
 ·obtain ⟨n, rfl, e'⟩:=zcd e; exact e'
 ·exact e
theorem ld_inv {a:Ad} {K:V->M α} (e:ld a K h = some out):∃ v, h.cell a = some v ∧ K v h = some out:=by
 unfold ld at e
 split at e
 ·exact ⟨_, by assumption, e⟩
 ·cases e
theorem zdl {a:Ad}:∀ {ss:List Sh} {i:Nat} {K:List V->M α}, yz a i ss K h = some out ->
  ∃ vs, vs.length = ss.length ∧ (∀ j, j < ss.length->h.cell (a.add (i + j)) = vs[j]?) ∧ K vs h = some out
 | [], i, K, e=>⟨[], rfl, fun j hj=>by simp at hj, e⟩
 | s :: ss, i, K, e=>by
  simp only [yz, ldSh] at e
  obtain ⟨v, hv, e⟩:=ld_inv e
  have e:=zch e
  obtain ⟨vs, hl, hc, e⟩:=zdl e
  refine ⟨v :: vs, by simp [hl], fun j hj=>?_, e⟩
  cases j with
  | zero=>simpa using hv
  | succ j=>
   have:=hc j (by simpa using hj)
   simp only [List.getElem?_cons_succ]
   rw [← this]; congr 2; omega
theorem zfc {b:Bool} {cs:List V} {K:V->M α} (e:mk b cs K h = some out):∃ v, (if b then v = .agg cs else cs = [v]) ∧ K v h = some out:=by
 unfold mk at e
 cases b
 ·simp only [cond_false] at e
  split at e
  ·exact ⟨_, rfl, e⟩
  ·cases e
 ·exact ⟨_, rfl, e⟩
end
def okOf (h:H) (X:Nat->Prop):Nat->Prop:=fun i=>i < h.next ∧ ¬ X i
section
variable {α:Type} (P:Program) (T:Tab) (base:Nat) (w0:World) (X:Nat->Prop)
def zr (call:Call α) (ι:Io) (h:H) (w:World) (o:Oper) (ρ':Operand->Value) (K E:V->M α) (out:α):Prop:=
 (∃ v h' ι' x w', K v h' = some out ∧ ((execOp ρ' o).run P w = .ok (.value x) w' ∨ x = undef ∧ (execOp ρ' o).run P w = .ok .skip w') ∧
  HR T base w0 X ι' h' w' ∧ Went X ι h w ι' h' w' ∧ VR ι' (okOf h' X) v x) ∨
 (∃ v x, E v h = some out ∧ (execOp ρ' o).run P w = .halt (.panic x) w ∧ VR ι (okOf h X) v x) ∨
 (∃ g args xs, (execOp ρ' o).run P w = (callFunc g xs).run P w ∧ VRL ι (okOf h X) args xs.toList ∧
  call g args (fun r=>match r with | .ret v=>K v | .pan v=>E v) h = some out)
end
theorem vr_ofV (ι:Io) (ok:Nat->Prop) (c:Value):VR ι ok (ofV c) c:=by
 unfold ofV
 split <;> first | rfl | trivial | exact ⟨_, rfl, rfl⟩ | exact ⟨rfl, rfl⟩
theorem zkm (ι:Io) (ok:Nat->Prop):∀ cs:List Value, VRL ι ok (cs.map ofV) cs
 | []=>trivial
 | c :: cs=>⟨vr_ofV ι ok c, zkm ι ok cs⟩
theorem vr_ofVal (ι:Io) (ok:Nat->Prop) (c:Value):VR ι ok (ofVal c) c:=by
 unfold ofVal
 split
 ·exact ⟨_, rfl, zkm ι ok _⟩
 ·exact vr_ofV ι ok c
theorem zhd {T:Tab} {base:Nat} {w0:World} {X:Nat->Prop} {ι:Io} {h:H} {w:World} (R:HR T base w0 X ι h w) {ρ:Frame} {a:Act}
  (hf:∀ t, VR ι (okOf h X) (ρ t) (a.tmps.getD t undef)) (x:Operand):VR ι (okOf h X) (ev T ρ x) (a.eval x):=by
 cases x with
 | tmp t=>exact hf t
 | const v=>exact vr_ofVal _ _ v
 | global g=>
  simp only [ev, Act.eval]
  cases hg:T.glob g with
  | none=>trivial
  | some i=>
   obtain ⟨h1, h2, h3, h4⟩:=R.glob g i hg
   exact ⟨⟨h1, h2⟩, by simp [Ad.to, h3, h4]⟩
 | func f=>exact ⟨#[], #[], rfl, trivial, trivial⟩
section ops
variable {α:Type} {P:Program} {T:Tab} {base:Nat} {w0:World} {X:Nat->Prop} {ι:Io} {h:H} {w:World} {call:Call α} {o:Oper} {ρ:Frame}
 {ρ':Operand->Value} {K E:V->M α} {out:α}
theorem zr.pure (R:HR T base w0 X ι h w) {v:V} {x:Value} (e:K v h = some out) (hr:(execOp ρ' o).run P w = .ok (.value x) w) (hv:VR ι (okOf h X) v x) :
  zr P T base w0 X call ι h w o ρ' K E out:=.inl ⟨v, h, ι, x, w, e, .inl hr, R, Went.refl X ι h w, hv⟩
theorem op_move (R:HR T base w0 X ι h w) (hρ:∀ x, VR ι (okOf h X) (ev T ρ x) (ρ' x)) {x:Operand} (ho:o.op = .move x ∨ o.op = .assign x)
  (e:zi T call ρ o K E h = some out):zr P T base w0 X call ι h w o ρ' K E out:=by
 rcases ho with ho | ho <;>
 ·simp only [zi, ho] at e
  exact zr.pure R e (by simp [execOp, ho]) (hρ x)
theorem op_pick (R:HR T base w0 X ι h w) (hρ:∀ x, VR ι (okOf h X) (ev T ρ x) (ρ' x)) {c a b:Operand} (ho:o.op = .pick c a b)
  (e:zi T call ρ o K E h = some out):zr P T base w0 X call ι h w o ρ' K E out:=by
 simp only [zi, ho] at e
 obtain ⟨g, hg, e⟩:=zem e
 have hc:=hρ c
 rw [hg] at hc
 have hc:ρ' c = .bool g:=hc
 cases g
 ·exact zr.pure R e (by simp [execOp, ho, hc, asBool]) (hρ b)
 ·exact zr.pure R e (by simp [execOp, ho, hc, asBool]) (hρ a)
theorem zme (R:HR T base w0 X ι h w) (hρ:∀ x, VR ι (okOf h X) (ev T ρ x) (ρ' x)) {f:Nat} {a b:Array Operand} (ho:o.op = .makeFunc (.func f) a b)
  (e:zi T call ρ o K E h = some out):zr P T base w0 X call ι h w o ρ' K E out:=by
 simp only [zi, ho] at e
 have hl:∀ l:List Operand, VRL ι (okOf h X) (l.map (ev T ρ)) (l.map ρ'):=by
  intro l; induction l with
  | nil=>trivial
  | cons x l ih=>exact ⟨hρ x, ih⟩
 exact zr.pure (x:=.func (.func f) (a.map ρ') (b.map ρ')) R e (by simp [execOp, ho, Instr.makeFunc]) ⟨_, _, rfl, by simpa using hl a.toList, by simpa using hl b.toList⟩
theorem op_panic (_R:HR T base w0 X ι h w) (hρ:∀ x, VR ι (okOf h X) (ev T ρ x) (ρ' x)) {x:Operand} (ho:o.op = .panic x)
  (e:zi T call ρ o K E h = some out):zr P T base w0 X call ι h w o ρ' K E out:=by
 simp only [zi, ho] at e
 have hc:=hρ x
 generalize ev T ρ x = u at e hc
 cases u with
 | iface t v=>
  obtain ⟨y, hy, hr⟩:=hc
  exact .inr (.inl ⟨.iface t v, .iface t y, e, by simp [execOp, ho, Instr.panic, hy], ⟨y, rfl, hr⟩⟩)
 | _=>cases e
theorem zkw:∀ (vs:List V) (i:Nat) (a:Ad) (h h':H), h.setL a i vs = some h'->vs.all oneV = true
 | [], _, _, _, _, _=>rfl
 | v :: vs, i, a, h, h', hs=>by
  simp only [H.setL] at hs
  cases hc:h.setCell (a.add i) v with
  | none=>rw [hc] at hs; cases hs
  | some h1=>
   rw [hc] at hs
   obtain ⟨h2, _⟩:=zfw hc
   simp [h2, zkw vs _ _ _ _ hs]
theorem zbf (R:HR T base w0 X ι h w) {a:Ad} (ha:¬ X a.id) {vs:List V} (hc:∀ j, j < vs.length->h.cell (a.add j) = vs[j]?) :
  ∃ xs:Array Value, (loadCells (a.to ι) vs.length).run P w = .ok xs w ∧ VRL ι (okOf h X) vs xs.toList:=by
 have hx:∀ j, j < vs.length->∃ x, w.cell? ((a.to ι).add j) = some x ∧ ∀ v, vs[j]? = some v->VR ι (okOf h X) v x:=by
  intro j hj
  have h1:=hc j hj
  rw [List.getElem?_eq_getElem hj] at h1
  obtain ⟨x, h2, h3, _⟩:=R.cell (a:=a.add j) ha h1
  refine ⟨x, by rw [zbl]; exact h2, fun v hv=>?_⟩
  rw [List.getElem?_eq_getElem hj] at hv
  cases hv
  exact h3
 let f:Nat->Value:=fun j=>(w.cell? ((a.to ι).add j)).getD undef
 have hf:∀ j, j < vs.length->w.cell? ((a.to ι).add j) = some (f j):=by
  intro j hj
  obtain ⟨x, h1, _⟩:=hx j hj
  simp [f, h1]
 refine ⟨((List.range vs.length).map f).toArray, run_loadCells (P:=P) w (a.to ι) vs.length f hf, VRL.of_get (by simp) fun j v hv=>?_⟩
 have hj:j < vs.length:=by
  rcases Nat.lt_or_ge j vs.length with h1 | h1
  ·exact h1
  ·rw [List.getElem?_eq_none h1] at hv; cases hv
 obtain ⟨x, h1, h2⟩:=hx j hj
 refine ⟨f j, by simp [hj], ?_⟩
 have:f j = x:=by simp [f, h1]
 rw [this]; exact h2 v hv
theorem op_load (hT:TabOk P T) (R:HR T base w0 X ι h w) (hρ:∀ x, VR ι (okOf h X) (ev T ρ x) (ρ' x)) {t:TypeId} {x:Operand} (ho:o.op = .load t x)
  (e:zi T call ρ o K E h = some out):zr P T base w0 X call ι h w o ρ' K E out:=by
 simp only [zi, ho] at e
 obtain ⟨p, hp, e⟩:=jz e
 obtain ⟨p, rfl, e⟩:=jk e
 have hc:=hρ x
 rw [hp] at hc
 obtain ⟨⟨hid, hx⟩, hc⟩:=hc
 cases hi:T.ti t with
 | none=>rw [hi] at e; cases e
 | some i=>
  rw [hi] at e
  have I:=hT.ti t i hi
  obtain ⟨vs, hl, hcell, e⟩:=zdl e
  obtain ⟨v, hv, e2⟩:=zfc e
  have hcell':∀ j, j < vs.length->h.cell (p.add j) = vs[j]?:=fun j hj=>by simpa using hcell j (by omega)
  have hlen:vs.length = i.size:=by rw [hl, I.shl]
  obtain ⟨xs, hrun, hvr⟩:=zbf (P:=P) R hx hcell'
  cases hag:i.agg with
  | true=>
   rw [hag] at hv
   simp only [if_true] at hv
   refine zr.pure (x:=.agg xs) R e2 ?_ (by rw [hv]; exact ⟨xs, rfl, hvr⟩)
   rw [hlen] at hrun
   simp [execOp, ho, hc, Instr.loadAt, Instr.sureAddr, loadVar, I.run_isAgg, hag, I.run_size, hrun]
  | false=>
   rw [hag] at hv
   simp only [Bool.false_eq_true, if_false] at hv
   subst hv
   have h1:=hcell' 0 (by simp)
   rw [List.getElem?_cons_zero] at h1
   obtain ⟨y, hy, hr, _⟩:=R.cell (a:=p.add 0) hx h1
   refine zr.pure (x:=y) R e2 ?_ hr
   have hy':w.cell? (p.to ι) = some y:=by rw [← zbl] at hy; simpa [Addr.add] using hy
   simp [execOp, ho, hc, Instr.loadAt, Instr.sureAddr, loadVar, I.run_isAgg, hag, hy']
theorem zkb {cs:List V} {K:Ad->M α} (e:new cs K h = some out):cs.all oneV = true ∧ K ⟨h.next, 0⟩ (h.push (.cells cs true)) = some out:=by
 unfold new at e
 obtain ⟨a, b⟩:=zg e
 exact ⟨a, b⟩
theorem zr.made (R:HR T base w0 X ι h w) (hX:∀ i, X i->i < h.next) {cs:List V} {arr:Array Value} {elem:TypeId} {v:V} {x:Value}
  (e:K v (h.push (.cells cs true)) = some out) (hone:cs.all oneV = true) (hsz:cs.length≤arr.size)
  (hv:VRL ι (okOf h X) cs (arr.toList.take cs.length)) (hr:(execOp ρ' o).run P w = .ok (.value x) (w.alloc (.cells arr elem)))
  (hx:VR (ι.set h.next ⟨w.heap.size, 0, arr.size⟩) (okOf (h.push (.cells cs true)) X) v x):zr P T base w0 X call ι h w o ρ' K E out:=by
 obtain ⟨R', W'⟩:=R.pushRow (elem:=elem) hX hv hsz hone
 exact .inl ⟨v, _, _, x, _, e, .inl hr, R', W', hx⟩
theorem zjr (hX:∀ i, X i->i < h.next) (b:Blk) (p:Pl) (hp:p.sh = 0):VR (ι.set h.next p) (okOf (h.push b) X) (.ptr (some ⟨h.next, 0⟩)) (.pointer (some ⟨p.cb, 0, none⟩)):=by
 refine ⟨⟨by show h.next < h.next + 1; omega, fun hx=>absurd (hX _ hx) (Nat.lt_irrefl _)⟩, ?_⟩
 simp [Ad.to, Io.set, hp]
theorem op_alloc (hT:TabOk P T) (R:HR T base w0 X ι h w) (hX:∀ i, X i->i < h.next) {t:TypeId} (ho:o.op = .alloc t)
  (e:zi T call ρ o K E h = some out):zr P T base w0 X call ι h w o ρ' K E out:=by
 simp only [zi, ho] at e
 cases hi:T.ti t with
 | none=>rw [hi] at e; cases e
 | some i=>
  rw [hi] at e
  have I:=hT.ti t i hi
  obtain ⟨z, hz, hzv, _⟩:=I.run_zero (w:=w)
  have hl:=(hzv ι (okOf h X)).length
  have hrun:(execOp ρ' o).run P w = .ok (.value (.pointer (some ⟨w.heap.size, 0, none⟩))) (w.alloc (.cells z.cells t)):=by simp [execOp, ho, Instr.alloc, hz, newVar, newRow]
  dsimp only at e
  cases hsp:T.spec t with
  | false=>
   rw [hsp] at e
   obtain ⟨hone, e⟩:=zkb (show new i.zero (fun a=>K (.ptr (some a))) h = some out from e)
   refine zr.made (arr:=z.cells) (elem:=t) R hX e hone (by simp [hl]) ?_ hrun (zjr hX _ ⟨w.heap.size, 0, z.cells.size⟩ rfl)
   rw [hl, List.take_length]; exact hzv _ _
  | true=>
   rw [hsp] at e
   have e:newT t i.zero (fun a=>K (.ptr (some a))) h = some out:=e
   unfold newT at e
   obtain ⟨hone, e⟩:=zg e
   obtain ⟨R', W'⟩:=R.push hX (o:=.cells z.cells t) (b:=.cellsT t true i.zero) (p:=⟨w.heap.size, 0, z.cells.size⟩) rfl
    ⟨z.cells, by rw [yg]; simp, rfl, rfl, ⟨by rw [hl]; simp, fun _=>by rw [hl]; simp⟩, by rw [hl, List.take_length]; exact hzv _ _, hone, R.size⟩
   exact .inl ⟨_, _, _, _, _, e, .inl hrun, R', W', zjr hX _ ⟨w.heap.size, 0, z.cells.size⟩ rfl⟩
theorem op_box (R:HR T base w0 X ι h w) (hX:∀ i, X i->i < h.next) (hρ:∀ x, VR ι (okOf h X) (ev T ρ x) (ρ' x)) {t:TypeId} {x:Operand} (ho:o.op = .box t x)
  (e:zi T call ρ o K E h = some out):zr P T base w0 X call ι h w o ρ' K E out:=by
 simp only [zi, ho] at e
 obtain ⟨hone, e⟩:=zkb e
 have hv:=(hρ x).cells hone
 have hl:=hv.length
 refine zr.made (arr:=(ρ' x).cells) (elem:=t) R hX e hone (by simp [hl]) ?_ ?_ (zjr hX _ ⟨w.heap.size, 0, (ρ' x).cells.size⟩ rfl)
 ·rw [hl, List.take_length]; exact hv
 ·simp [execOp, ho, Instr.box, newVar, newRow]
theorem op_store (hT:TabOk P T) (R:HR T base w0 X ι h w) (hρ:∀ x, VR ι (okOf h X) (ev T ρ x) (ρ' x)) {t:TypeId} {p x:Operand} (ho:o.op = .store t p x)
  (e:zi T call ρ o K E h = some out):zr P T base w0 X call ι h w o ρ' K E out:=by
 simp only [zi, ho] at e
 obtain ⟨q, hq, e⟩:=jz e
 obtain ⟨q, rfl, e⟩:=jk e
 have hc:=hρ p
 rw [hq] at hc
 obtain ⟨⟨hid, hx⟩, hc⟩:=hc
 cases hi:T.ti t with
 | none=>rw [hi] at e; cases e
 | some i=>
  rw [hi] at e
  have I:=hT.ti t i hi
  obtain ⟨hlen, e⟩:=zg e
  have hlen:=Nat.eq_of_beq_eq_true hlen
  rw [stL_eq] at e
  cases hs:h.setL q 0 (ev T ρ x).cells with
  | none=>rw [hs] at e; cases e
  | some h'=>
   rw [hs] at e
   have hall:(ev T ρ x).cells.all oneV = true:=zkw _ _ _ _ _ hs
   have hv:=(hρ x).cells hall
   obtain ⟨w', hrun, R', W', _⟩:=HR.stores P hx _ _ 0 h h' w R hv hs
   refine .inl ⟨.undef, h', ι, undef, w', e, .inr ⟨rfl, ?_⟩, R', W', trivial⟩
   have hl2:(ρ' x).cells.size = i.size:=by rw [← hlen, hv.length]; simp
   simp [execOp, ho, hc, Instr.storeAt, Instr.sureAddr, storeVar, I.run_size, hl2, hrun]
theorem zna (R:HR T base w0 X ι h w) (hρ:∀ x, VR ι (okOf h X) (ev T ρ x) (ρ' x)) {x:Operand} {n:Nat} (ho:o.op = .extract x n)
  (e:zi T call ρ o K E h = some out):zr P T base w0 X call ι h w o ρ' K E out:=by
 simp only [zi, ho] at e
 have hc:=hρ x
 generalize ev T ρ x = u at e hc
 cases u with
 | tuple vs=>
  obtain ⟨a, ha, hv⟩:=hc
  simp only at e
  cases hg:vs[n]? with
  | none=>rw [hg] at e; cases e
  | some v=>
   rw [hg] at e
   obtain ⟨y, hy, hr⟩:=hv.get hg
   rw [Array.getElem?_toList] at hy
   exact zr.pure R e (by simp [execOp, ho, ha, Instr.extract, hy]) hr
 | _=>cases e
theorem zlh (R:HR T base w0 X ι h w) (hρ:∀ x, VR ι (okOf h X) (ev T ρ x) (ρ' x)) {x:Operand} (ho:o.op = .nilCheck x)
  (e:zi T call ρ o K E h = some out):zr P T base w0 X call ι h w o ρ' K E out:=by
 simp only [zi, ho] at e
 have hc:=hρ x
 generalize ev T ρ x = u at e hc
 cases u with
 | ptr p=>
  obtain ⟨p, rfl, e⟩:=jk e
  obtain ⟨h1, hc⟩:=hc
  exact zr.pure R e (by simp [execOp, ho, hc]) ⟨h1, rfl⟩
 | func f a b=>
  obtain ⟨c, d, hc, h1, h2⟩:=hc
  exact zr.pure (x:=.func (.func f) c d) R e (by simp [execOp, ho, hc]) ⟨c, d, rfl, h1, h2⟩
 | _=>cases e
theorem op_unOp (R:HR T base w0 X ι h w) (hρ:∀ x, VR ι (okOf h X) (ev T ρ x) (ρ' x)) {op:UnOp} {t:TypeId} {x:Operand} (ho:o.op = .unOp op t x)
  (e:zi T call ρ o K E h = some out):zr P T base w0 X call ι h w o ρ' K E out:=by
 simp only [zi, ho] at e
 have hc:=hρ x
 generalize ev T ρ x = u at e hc
 cases op <;> cases u <;> first
  | cases e
  | exact zr.pure R e (by simp [execOp, ho, show ρ' x = _ from hc, Op.unary, Op.intArith, Op.intBits, bits]) rfl
theorem zcq {fs:Array Field} {n:Nat} {off:Nat} {ti:TI} (e:fieldAt T fs n = some (off, ti)):∃ f, fs[n]? = some f ∧ T.ti f.type = some ti ∧ f.offset = off:=by
 unfold fieldAt at e
 cases hf:fs[n]? with
 | none=>rw [hf] at e; cases e
 | some f=>
  rw [hf] at e
  simp only at e
  cases ht:T.ti f.type with
  | none=>rw [ht] at e; cases e
  | some i=>rw [ht] at e; cases e; exact ⟨f, rfl, ht, rfl⟩
theorem zkh (hT:TabOk P T) (R:HR T base w0 X ι h w) (hρ:∀ x, VR ι (okOf h X) (ev T ρ x) (ρ' x)) {t:TypeId} {x:Operand} {n:Nat} (ho:o.op = .fieldAddr t x n)
  (e:zi T call ρ o K E h = some out):zr P T base w0 X call ι h w o ρ' K E out:=by
 simp only [zi, ho] at e
 obtain ⟨p, hp, e⟩:=jz e
 obtain ⟨p, rfl, e⟩:=jk e
 have hc:=hρ x
 rw [hp] at hc
 obtain ⟨⟨hid, hx⟩, hc⟩:=hc
 split at e
 ·rename_i fs a1 a2 a3 a4 a5 a6 hi
  have I:=hT.ti t _ hi
  cases hf:fieldAt T fs n with
  | none=>rw [hf] at e; cases e
  | some r=>
   obtain ⟨off, ti⟩:=r
   rw [hf] at e
   obtain ⟨f, hf1, hf2, hf3⟩:=zcq hf
   have J:=hT.ti _ _ hf2
   obtain ⟨hsz, e⟩:=zg e
   have hsz:ti.size ≠ 0:=by
    intro h0; rw [h0] at hsz; cases hsz
   refine zr.pure (x:=.pointer (some ((p.add off).to ι))) R e ?_ ⟨⟨hid, hx⟩, rfl⟩
   simp [execOp, ho, hc, Instr.fieldAt, I.run_und, hf1, Instr.sureAddr, fieldPlace, J.run_size, hsz, hf3, zbl]
 ·cases e
theorem part_ok (hT:TabOk P T) {t:TypeId} {ti:TI} (hi:T.ti t = some ti) {cs:List V} {a:Array Value} {off:Nat} (hv:VRL ι (okOf h X) cs a.toList)
  (e:part ti cs off K h = some out):∃ v x, K v h = some out ∧ (Go.part t a off).run P w = .ok x w ∧ VR ι (okOf h X) v x:=by
 have I:=hT.ti _ _ hi
 unfold Ab.part at e
 cases hag:ti.agg with
 | true=>
  rw [hag] at e
  refine ⟨_, .agg (a.extract off (off + ti.size)), e, by simp [Go.part, I.run_isAgg, hag, I.run_size], ?_⟩
  refine ⟨_, rfl, ?_⟩
  have:=(hv.drop off).take ti.size
  simpa [Array.toList_extract, List.extract_eq_take_drop] using this
 | false=>
  rw [hag] at e
  simp only [cond_false] at e
  cases hg:cs[off]? with
  | none=>rw [hg] at e; cases e
  | some v=>
   rw [hg] at e
   obtain ⟨y, hy, hr⟩:=hv.get hg
   rw [Array.getElem?_toList] at hy
   exact ⟨v, y, e, by simp [Go.part, I.run_isAgg, hag, hy], hr⟩
theorem op_field (hT:TabOk P T) (R:HR T base w0 X ι h w) (hρ:∀ x, VR ι (okOf h X) (ev T ρ x) (ρ' x)) {t:TypeId} {x:Operand} {n:Nat} (ho:o.op = .field t x n)
  (e:zi T call ρ o K E h = some out):zr P T base w0 X call ι h w o ρ' K E out:=by
 simp only [zi, ho] at e
 cases hi:T.ti t with
 | none=>rw [hi] at e; cases e
 | some i=>
 rw [hi] at e
 obtain ⟨und, a1, a2, a3, a4, a5, a6⟩:=i
 cases und with
 | struct fs=>
  dsimp only at e
  have I:=hT.ti t _ hi
  cases hf:fieldAt T fs n with
  | none=>rw [hf] at e; cases e
  | some r=>
   obtain ⟨off, ti⟩:=r
   rw [hf] at e
   obtain ⟨f, hf1, hf2, hf3⟩:=zcq hf
   obtain ⟨cs, hcs, e⟩:=jf e
   have hc:=hρ x
   rw [hcs] at hc
   obtain ⟨a, ha, hv⟩:=hc
   obtain ⟨v, y, e2, hr, hvr⟩:=part_ok (w:=w) hT hf2 hv e
   subst hf3
   exact zr.pure R e2 (by simp [execOp, ho, ha, Instr.field, I.run_und, hf1, Go.asAgg, hr]) hvr
 | _=>cases e
theorem zga {x:Operand} {k:IntKind} {n:Int} (hρ:∀ x, VR ι (okOf h X) (ev T ρ x) (ρ' x)) (hx:ev T ρ x = .int k n):ρ' x = .int k n:=by
 have:=hρ x
 rw [hx] at this
 exact this
theorem zjm (hT:TabOk P T) (R:HR T base w0 X ι h w) (hρ:∀ x, VR ι (okOf h X) (ev T ρ x) (ρ' x)) {t:TypeId} {x ix:Operand} (ho:o.op = .indexAddr t x ix)
  (e:zi T call ρ o K E h = some out):zr P T base w0 X call ι h w o ρ' K E out:=by
 simp only [zi, ho] at e
 cases hi:T.ti t with
 | none=>rw [hi] at e; cases e
 | some i=>
 rw [hi] at e
 obtain ⟨und, a1, a2, a3, a4, a5, a6⟩:=i
 have I:=hT.ti t _ hi
 cases und with
 | slice el=>
  dsimp only at e
  cases hj:T.ti el with
  | none=>rw [hj] at e; cases e
  | some i=>
  rw [hj] at e
  cases hn:ev T ρ ix with
  | int k n=>
   rw [hn] at e
   dsimp only at e
   have J:=hT.ti _ _ hj
   obtain ⟨s, hs, e⟩:=jm e
   unfold idxSl at e
   obtain ⟨a, ha, e⟩:=jk e
   obtain ⟨h0, e⟩:=zg e
   obtain ⟨h1, e⟩:=zg e
   have h0:=of_decide_eq_true h0
   have h1:=of_decide_eq_true h1
   have hc:=hρ x
   rw [hs] at hc
   unfold VR SlR at hc
   rw [ha] at hc
   obtain ⟨hok, b, c, hx, hb, hle, hl⟩:=hc
   have hc0:c ≠ 0:=by
    cases hlo:s.loose with
    | none=>rw [hlo] at hl; simp only at hl; omega
    | some _=>rw [hlo] at hl; obtain ⟨hl, _⟩:=hl; omega
   have hb:=hb.resolve_left hc0
   refine zr.pure (x:=.pointer (some ((a.add (n.toNat * i.size)).to ι))) R e ?_ ⟨hok, rfl⟩
   simp [execOp, ho, hx, zga hρ hn, Instr.indexAt, asIntOf, I.run_und, h0, h1, J.run_size, hb, zbl]
  | _=>rw [hn] at e; cases e
 | array len el=>
  dsimp only at e
  cases hj:T.ti el with
  | none=>rw [hj] at e; cases e
  | some i=>
  rw [hj] at e
  cases hn:ev T ρ ix with
  | int k n=>
   rw [hn] at e
   dsimp only at e
   have J:=hT.ti _ _ hj
   obtain ⟨p, hp, e⟩:=jz e
   obtain ⟨p, rfl, e⟩:=jk e
   obtain ⟨h0, e⟩:=zg e
   obtain ⟨h1, e⟩:=zg e
   have h0:=of_decide_eq_true h0
   have h1:=of_decide_eq_true h1
   have hc:=hρ x
   rw [hp] at hc
   obtain ⟨hok, hc⟩:=hc
   refine zr.pure (x:=.pointer (some ((p.add (n.toNat * i.size)).to ι))) R e ?_ ⟨hok, rfl⟩
   simp [execOp, ho, hc, zga hρ hn, Instr.indexAt, asIntOf, I.run_und, h0, h1, J.run_size, Instr.sureAddr, zbl]
  | _=>rw [hn] at e; cases e
 | _=>cases e
theorem shV_inv {b:Bool} {sh:List Sh} {v:V} {K:V->M α} (e:shV b sh v K h = some out):K v h = some out:=by
 unfold shV at e
 cases b with
 | true=>exact e
 | false=>
  simp only [cond_false] at e
  match sh, e with
  | [s], e=>exact zch e
theorem op_index (hT:TabOk P T) (R:HR T base w0 X ι h w) (hρ:∀ x, VR ι (okOf h X) (ev T ρ x) (ρ' x)) {t:TypeId} {x ix:Operand} (ho:o.op = .index t x ix)
  (e:zi T call ρ o K E h = some out):zr P T base w0 X call ι h w o ρ' K E out:=by
 simp only [zi, ho] at e
 cases hn:ev T ρ ix with
 | int k n=>
  rw [hn] at e
  dsimp only at e
  have hc:=hρ x
  generalize hu:ev T ρ x = u at e hc
  cases u with
  | str s=>
   obtain ⟨b, hb, hbs⟩:=hc
   cases hi:T.ti t with
   | none=>rw [hi] at e; cases e
   | some i=>
   rw [hi] at e
   obtain ⟨und, a1, a2, a3, a4, a5, a6⟩:=i
   have I:=hT.ti t _ hi
   cases und with
   | string=>
    simp only [idxStr] at e
    obtain ⟨h0, e⟩:=zg e
    have h0:=of_decide_eq_true h0
    cases hg:s[n.toNat]? with
    | none=>rw [hg] at e; cases e
    | some c=>
     rw [hg] at e
     have hg':b[n.toNat]? = some c:=by
      rw [← hbs, Array.getElem?_toList] at hg
      obtain ⟨hlt, hg⟩:=Array.getElem?_eq_some_iff.1 hg
      rw [getElem?_pos b n.toNat hlt]
      exact congrArg some hg
     refine zr.pure (x:=.int .u8 c.toNat) R e ?_ rfl
     simp [execOp, ho, hb, zga hρ hn, Instr.index, asIntOf, I.run_und, h0, hg']
   | _=>cases e
  | agg cs=>
   obtain ⟨a, ha, hv⟩:=hc
   simp only at e
   cases hi:T.ti t with
   | none=>rw [hi] at e; cases e
   | some i=>
   rw [hi] at e
   obtain ⟨und, a1, a2, a3, a4, a5, a6⟩:=i
   have I:=hT.ti t _ hi
   cases und with
   | array len el=>
    dsimp only at e
    cases hj:T.ti el with
    | none=>rw [hj] at e; cases e
    | some i=>
     rw [hj] at e
     have J:=hT.ti _ _ hj
     obtain ⟨h0, e⟩:=zg e
     obtain ⟨h1, e⟩:=zg e
     have h0:=of_decide_eq_true h0
     have h1:=of_decide_eq_true h1
     obtain ⟨v, y, e, hr, hvr⟩:=part_ok (w:=w) hT hj hv e
     exact zr.pure R (shV_inv e) (by simp [execOp, ho, ha, zga hρ hn, Instr.index, asIntOf, I.run_und, h0, h1, J.run_size, hr]) hvr
   | _=>cases e
  | _=>cases e
 | _=>rw [hn] at e; cases e
theorem zev (hT:TabOk P T) (R:HR T base w0 X ι h w) (hρ:∀ x, VR ι (okOf h X) (ev T ρ x) (ρ' x)) {t:TypeId} {x:Operand} (ho:o.op = .makeInterface t x)
  (e:zi T call ρ o K E h = some out):zr P T base w0 X call ι h w o ρ' K E out:=by
 simp only [zi, ho] at e
 cases hi:T.ti t with
 | none=>rw [hi] at e; cases e
 | some i=>
  rw [hi] at e
  have I:=hT.ti t _ hi
  obtain ⟨und, a1, a2, a3, a4, a5, a6⟩:=i
  cases und with
  | interface ms=>cases e
  | _=>exact zr.pure (x:=.iface t (ρ' x)) R e (by simp [execOp, ho, Instr.makeInterface, I.run_und]) ⟨_, rfl, hρ x⟩
theorem arith_ok {op:BinOp} {k:IntKind} {a b:Int} (t:TypeId) (hop:op ≠ .shl ∧ op ≠ .shr) (e:arith op k a b K h = some out) :
  ∃ v x, K v h = some out ∧ (Go.binOp op t (.int k a) (.int k b)).run P w = .ok x w ∧ VR ι (okOf h X) v x:=by
 cases op <;> simp only [arith] at e
 case quo=>
  obtain ⟨h0, e⟩:=zg e
  have h0:b ≠ 0:=by simpa using h0
  exact ⟨_, _, e, by simp [Go.binOp, Op.intDiv, h0], rfl⟩
 case rem=>
  obtain ⟨h0, e⟩:=zg e
  have h0:b ≠ 0:=by simpa using h0
  exact ⟨_, _, e, by simp [Go.binOp, Op.intDiv, h0], rfl⟩
 case shl=>exact absurd rfl hop.1
 case shr=>exact absurd rfl hop.2
 case eql=>exact ⟨_, .bool (a == b), e, by simp [Go.binOp, Op.intCmp], congrArg Value.bool (by by_cases h:a = b <;> simp [h])⟩
 case neq=>exact ⟨_, .bool (a != b), e, by simp [Go.binOp, Op.intCmp], congrArg Value.bool (by by_cases h:a = b <;> simp [h])⟩
 case add=>exact ⟨_, _, e, by simp [Go.binOp, Op.intArith], rfl⟩
 case sub=>exact ⟨_, _, e, by simp [Go.binOp, Op.intArith], rfl⟩
 case mul=>exact ⟨_, _, e, by simp [Go.binOp, Op.intArith], rfl⟩
 case and=>exact ⟨_, .int k (bits .and k a b), e, by simp [Go.binOp, Op.intBits, bits], rfl⟩
 case or=>exact ⟨_, .int k (bits .or k a b), e, by simp [Go.binOp, Op.intBits, bits], rfl⟩
 case xor=>exact ⟨_, .int k (bits .xor k a b), e, by simp [Go.binOp, Op.intBits, bits], rfl⟩
 case andNot=>exact ⟨_, .int k (bits .andNot k a b), e, by simp [Go.binOp, Op.intBits, bits], rfl⟩
 case lss=>exact ⟨_, .bool (decide (a < b)), e, by simp [Go.binOp, Op.intCmp], rfl⟩
 case leq=>exact ⟨_, .bool (decide (a≤b)), e, by simp [Go.binOp, Op.intCmp], rfl⟩
 case gtr=>exact ⟨_, .bool (decide (b < a)), e, by simp [Go.binOp, Op.intCmp], rfl⟩
 case geq=>exact ⟨_, .bool (decide (b≤a)), e, by simp [Go.binOp, Op.intCmp], rfl⟩
end ops
end Go.Ab
