import Derived.Test.YtdhjpnacjnkbgaaGreatDoorAb14
import Derived.Laws.StructEq
import Derived.ChangeKeysEq
set_option linter.unusedVariables false
set_option linter.unusedSimpArgs false
set_option linter.unusedSectionVars false
namespace Go.Ab
section
variable {P:Program}
def zfd (P:Program) (t:TypeId):Sh->Prop
 | .int k=>P.underlying t = some (.int k)
 | .bool=>P.underlying t = some .bool
 | .str=>P.underlying t = some .string
 | _=>False
def zgl (P:Program):Nat->List Field->List Sh->Prop
 | _, [], []=>True
 | i, f :: fs, s :: ss=>(f.name != "_") = true ∧ f.offset = i ∧ zfd P f.type s ∧ zgl P (i + 1) fs ss
 | _, _, _=>False
theorem zdr {t:TypeId} {s:Sh} (h:zfd P t s):∃ d, P.underlying t = some d ∧ (∀ w, (isAgg t).run P w = .ok false w):=by
 cases s <;> first | exact h.elim | skip
 all_goals exact ⟨_, h, fun w=>by simp [isAgg, run_underlying (show P.underlying t = some _ from h)]⟩
theorem zmc {ι:Io} {ok:Nat->Prop} {t:TypeId} {s:Sh} {v u:V} {x y:Value} {b:Bool} (hb:zfd P t s) (hf:zel s v = true) (hx:VR ι ok v x) (hy:VR ι ok u y) (he:eq1B v u = some b) (n:Nat)
  (w:World):(Op.equalIn (n + 1) t x y).run P w = .ok b w:=by
 unfold zel at hf
 split at hf
 ·rename_i k j a
  cases u <;> first | (cases he; done) | skip
  rename_i k2 c
  simp only [eq1B] at he
  cases hk:yc j k2 with
  | false=>rw [hk] at he; cases he
  | true=>
   rw [hk] at he
   cases he
   rw [show x = _ from hx, show y = _ from hy, zbe hk]
   rw [run_equalIn_int w n t k2 k a c hb]
   rfl
 ·rename_i a
  cases u <;> first | (cases he; done) | skip
  rename_i c
  cases he
  rw [show x = _ from hx, show y = _ from hy, run_equalIn_bool' w n t a c hb]
  cases a <;> cases c <;> rfl
 ·rename_i a
  cases u <;> first | (cases he; done) | skip
  rename_i c
  cases he
  obtain ⟨p, rfl, rfl⟩:=hx
  obtain ⟨q, rfl, rfl⟩:=hy
  rw [run_equalIn_string w n t p q hb, bytes_beq]
 ·cases hf
theorem zfp {ι:Io} {ok:Nat->Prop} {xs ys:Array Value} (n:Nat) (w:World):∀ (fs:List Field) (ss:List Sh) (i:Nat) (vs us:List V) (b:Bool), zgl P i fs ss->jv ss vs = true ->
  VRL ι ok vs (xs.toList.drop i)->VRL ι ok us (ys.toList.drop i)->eqB vs us = some b->(Op.eqFields (n + 1) xs ys fs).run P w = .ok b w
 | [], [], i, [], [], b, _, _, _, _, he=>by cases he; rfl
 | f :: fs, s :: ss, i, v :: vs, u :: us, b, hB, hf, hx, hy, he=>by
  obtain ⟨h1, h2, h3, h4⟩:=hB
  have hfa:zel s v = true ∧ jv ss vs = true:=by simpa [jv] using hf
  have key:∀ {zs:Array Value} {v:V} {vs:List V}, VRL ι ok (v :: vs) (zs.toList.drop i)->∃ z, zs[i]? = some z ∧ VR ι ok v z ∧ VRL ι ok vs (zs.toList.drop (i + 1)):=by
   intro zs v vs h
   cases hd:zs.toList.drop i with
   | nil=>rw [hd] at h; exact h.elim
   | cons z r=>
    rw [hd] at h
    refine ⟨z, ?_, h.1, ?_⟩
    ·have:(zs.toList.drop i)[0]? = some z:=by rw [hd]; rfl
     rw [List.getElem?_drop] at this
     simpa using this
    ·have:zs.toList.drop (i + 1) = r:=by rw [← List.drop_drop, hd]; rfl
     rw [this]; exact h.2
  obtain ⟨x, hx1, hx2, hx3⟩:=key hx
  obtain ⟨y, hy1, hy2, hy3⟩:=key hy
  obtain ⟨d, _, hag⟩:=zdr h3
  have px:(Go.part f.type xs f.offset).run P w = .ok x w:=by simp [Go.part, hag, h2, hx1]
  have py:(Go.part f.type ys f.offset).run P w = .ok y w:=by simp [Go.part, hag, h2, hy1]
  simp only [eqB] at he
  cases he1:eq1B v u with
  | none=>rw [he1] at he; cases he
  | some b1=>
   cases he2:eqB vs us with
   | none=>rw [he1, he2] at he; cases he
   | some b2=>
    rw [he1, he2] at he
    cases he
    have h0:f.name ≠ "_":=by simpa using h1
    have hq:=zmc (P:=P) h3 hfa.1 hx2 hy2 he1 n w
    have hr:=zfp n w fs ss (i + 1) vs us b2 h4 hfa.2 hx3 hy3 he2
    simp only [Op.eqFields, ne_eq, h0, not_false_eq_true, if_true, Sem.run_bind, px, py, Result.andThen_ok, hq]
    cases b1
    ·rfl
    ·simpa using hr
 | [], [], i, [], _ :: _, b, _, _, _, _, he=>by cases he
 | [], [], i, _ :: _, _, b, _, hf, _, _, _=>by simp [jv] at hf
 | [], _ :: _, _, _, _, _, h, _, _, _, _=>h.elim
 | _ :: _, [], _, _, _, _, h, _, _, _, _=>h.elim
 | _ :: _, _ :: _, _, [], _, _, _, hf, _, _, _=>by simp [jv] at hf
 | _ :: _, _ :: _, _, _ :: _, [], _, _, _, _, _, he=>by cases he
theorem zlo {ι:Io} {ok:Nat->Prop} {t:TypeId} {s:Sh} {v:V} {x:Value} (hb:zfd P t s) (hf:zel s v = true) (hx:VR ι ok v x) (b:Bool) (n:Nat) (w:World):(Instr.checkKey b (n + 1) t x).run P w = .ok () w:=by
 unfold zel at hf
 split at hf
 ·rw [show x = _ from hx]
  exact MapKept.run_checkKey (show P.underlying t = some _ from hb) (by show _ = _; exact (zbe hf).symm) b n
 ·rename_i a
  rw [show x = _ from hx]
  exact MapKept.run_checkKey (k:=.bool a) (show P.underlying t = some _ from hb) (by simp [MapKept.IsKey]) b n
 ·obtain ⟨p, rfl, _⟩:=hx
  exact MapKept.run_checkKey (k:=.string p) (show P.underlying t = some _ from hb) (by simp [MapKept.IsKey]) b n
 ·cases hf
theorem checkFs {ι:Io} {ok:Nat->Prop} {xs:Array Value} (b:Bool) (n m:Nat) (hm:m = n + 1) (w:World):∀ (fs:List Field) (ss:List Sh) (i:Nat) (vs:List V), zgl P i fs ss->jv ss vs = true->VRL ι ok vs (xs.toList.drop i) ->
  (forIn (m:=Sem) fs PUnit.unit fun (f:Field) (_:PUnit)=>if f.name ≠ "_" then (do Instr.checkKey b m f.type (← Go.part f.type xs f.offset); pure (ForInStep.yield PUnit.unit)) else pure (ForInStep.yield PUnit.unit)).run P w = .ok PUnit.unit w
 | [], [], i, vs, _, _, _=>by simp
 | f :: fs, s :: ss, i, v :: vs, hB, hf, hx=>by
  obtain ⟨h1, h2, h3, h4⟩:=hB
  have hfa:zel s v = true ∧ jv ss vs = true:=by simpa [jv] using hf
  have key:∃ z, xs[i]? = some z ∧ VR ι ok v z ∧ VRL ι ok vs (xs.toList.drop (i + 1)):=by
   cases hd:xs.toList.drop i with
   | nil=>rw [hd] at hx; exact hx.elim
   | cons z r=>
    rw [hd] at hx
    refine ⟨z, ?_, hx.1, ?_⟩
    ·have:(xs.toList.drop i)[0]? = some z:=by rw [hd]; rfl
     rw [List.getElem?_drop] at this
     simpa using this
    ·have:xs.toList.drop (i + 1) = r:=by rw [← List.drop_drop, hd]; rfl
     rw [this]; exact hx.2
  obtain ⟨x, hx1, hx2, hx3⟩:=key
  obtain ⟨d, _, hag⟩:=zdr h3
  have px:(Go.part f.type xs f.offset).run P w = .ok x w:=by simp [Go.part, hag, h2, hx1]
  have h0:f.name ≠ "_":=by simpa using h1
  have hc:(Instr.checkKey b m f.type x).run P w = .ok () w:=by rw [hm]; exact zlo h3 hfa.1 hx2 b n w
  have hr:=checkFs b n m hm w fs ss (i + 1) vs h4 hfa.2 hx3
  rw [List.forIn_cons]
  simp only [ne_eq, h0, not_false_eq_true, if_true, Sem.run_bind, px, hc, Result.andThen_ok, Sem.run_pure]
  exact hr
 | [], _ :: _, _, _, h, _, _=>h.elim
 | _ :: _, [], _, _, h, _, _=>h.elim
 | _ :: _, _ :: _, _, [], _, hf, _=>by simp [jv] at hf
theorem js {q:Prop} {t:TypeId} {fs:Array Field} {ss:List Sh} (hu:P.underlying t = some (.struct fs)) (hs:P.stoodInHeld t = false) (hg:P.eqGuardType P.depth t = false) (hB:zgl P 0 fs.toList ss) :
  (P.eqGuardType P.depth t = false ∧ ∀ (xs ys:Array Value) (w:World) (b:Bool),
   (∀ ι ok (vs us:List V), jv ss vs = true->VRL ι ok vs xs.toList->VRL ι ok us ys.toList->eqB vs us = some b->(Op.equal t (.agg xs) (.agg ys)).run P w = .ok b w)) ∧
  (q->(∃ fs, P.underlying t = some (.struct fs)) ∧ ∀ (b:Bool) (ι:Io) (ok:Nat->Prop) (vs:List V) (xs:Array Value) (w:World),
   jv ss vs = true->VRL ι ok vs xs.toList->(Instr.checkKey b 10000 t (.agg xs)).run P w = .ok () w):=by
 refine ⟨⟨hg, fun xs ys w b ι ok vs us hf hx hy he=>?_⟩, fun _=>⟨⟨fs, hu⟩, fun b ι ok vs xs w hf hx=>?_⟩⟩
 rotate_left
 ·have:=checkFs b 9998 9999 rfl w fs.toList ss 0 vs hB hf hx
  unfold Instr.checkKey
  simp only [Sem.run_bind, run_underlying hu, Result.andThen_ok]
  rw [← Array.forIn_toList, this]
  rfl
 have hfs:P.fieldsOf t = fs:=by unfold Program.fieldsOf; rw [hu]
 show (Op.equalIn (9999 + 1) t (.agg xs) (.agg ys)).run P w = _
 rw [run_equalIn_struct w 9999 t xs ys (by rw [hfs]; exact hu) hs, hfs]
 exact zfp 9998 w fs.toList ss 0 vs us b hB hf hx hy he
theorem zhq {ι:Io} {ok:Nat->Prop} {xs ys:Array Value} {e:TypeId} {s:Sh} (he:zfd P e s) (n:Nat) (w:World):∀ (m k:Nat) (vs us:List V) (b:Bool), jv (List.replicate m s) vs = true ->
  VRL ι ok vs (xs.toList.drop k)->VRL ι ok us (ys.toList.drop k)->eqB vs us = some b->(Op.eqItems (n + 1) e 1 xs ys (List.range' k m)).run P w = .ok b w
 | 0, k, [], [], b, _, _, _, h=>by cases h; rfl
 | m + 1, k, v :: vs, u :: us, b, hf, hx, hy, hb=>by
  have hfa:zel s v = true ∧ jv (List.replicate m s) vs = true:=by simpa [List.replicate_succ, jv] using hf
  have key:∀ {zs:Array Value} {v:V} {vs:List V}, VRL ι ok (v :: vs) (zs.toList.drop k)->∃ z, zs[k]? = some z ∧ VR ι ok v z ∧ VRL ι ok vs (zs.toList.drop (k + 1)):=by
   intro zs v vs h
   cases hd:zs.toList.drop k with
   | nil=>rw [hd] at h; exact h.elim
   | cons z r=>
    rw [hd] at h
    refine ⟨z, ?_, h.1, ?_⟩
    ·have:(zs.toList.drop k)[0]? = some z:=by rw [hd]; rfl
     rw [List.getElem?_drop] at this
     simpa using this
    ·have:zs.toList.drop (k + 1) = r:=by rw [← List.drop_drop, hd]; rfl
     rw [this]; exact h.2
  obtain ⟨x, hx1, hx2, hx3⟩:=key hx
  obtain ⟨y, hy1, hy2, hy3⟩:=key hy
  obtain ⟨d, _, hag⟩:=zdr he
  have px:(Go.part e xs (k * 1)).run P w = .ok x w:=by simp [Go.part, hag, hx1]
  have py:(Go.part e ys (k * 1)).run P w = .ok y w:=by simp [Go.part, hag, hy1]
  simp only [eqB] at hb
  cases he1:eq1B v u with
  | none=>rw [he1] at hb; cases hb
  | some b1=>
   cases he2:eqB vs us with
   | none=>rw [he1, he2] at hb; cases hb
   | some b2=>
    rw [he1, he2] at hb
    cases hb
    have hq:=zmc (P:=P) he hfa.1 hx2 hy2 he1 n w
    have hr:=zhq he n w m (k + 1) vs us b2 hfa.2 hx3 hy3 he2
    rw [List.range'_succ]
    simp only [Op.eqItems, Sem.run_bind, px, py, Result.andThen_ok, hq]
    cases b1
    ·rfl
    ·simpa using hr
 | 0, k, _ :: _, _, _, hf, _, _, _=>by simp [jv] at hf
 | 0, k, [], _ :: _, _, _, _, _, h=>by cases h
 | m + 1, k, [], _, _, hf, _, _, _=>by simp [List.replicate_succ, jv] at hf
 | m + 1, k, _ :: _, [], _, _, _, _, h=>by cases h
theorem zdd {q:Prop} {t e:TypeId} {n:Nat} {s:Sh} {inf:TypeInfo} (hu:P.underlying t = some (.array n e)) (hg:P.eqGuardType P.depth t = false) (hi:P.info? e = some inf) (hc:P.cellsOf e = 1) (he:zfd P e s) (hq:¬ q) :
  (P.eqGuardType P.depth t = false ∧ ∀ (xs ys:Array Value) (w:World) (b:Bool),
   (∀ ι ok (vs us:List V), jv (List.replicate n s) vs = true->VRL ι ok vs xs.toList->VRL ι ok us ys.toList->eqB vs us = some b->(Op.equal t (.agg xs) (.agg ys)).run P w = .ok b w)) ∧
  (q->(∃ fs, P.underlying t = some (.struct fs)) ∧ ∀ (b:Bool) (ι:Io) (ok:Nat->Prop) (vs:List V) (xs:Array Value) (w:World),
   jv (List.replicate n s) vs = true->VRL ι ok vs xs.toList->(Instr.checkKey b 10000 t (.agg xs)).run P w = .ok () w):=by
 refine ⟨⟨hg, fun xs ys w b ι ok vs us hf hx hy hb=>?_⟩, fun h=>absurd h hq⟩
 show (Op.equalIn (9999 + 1) t (.agg xs) (.agg ys)).run P w = _
 rw [run_equalIn_array w 9999 xs ys hu hi, hc, List.range_eq_range']
 exact zhq he 9998 w n 0 vs us b hf hx hy hb
def fldB (n:Nat):TypeDesc->Bool
 | .struct fs=>fs.toList.all fun f=>Nat.blt f.type n
 | _=>true
theorem TIOk.of {t:TypeId} {i:TI} {inf:TypeInfo} {z:Value} (n:Nat) (hu:P.underlying t = some i.und) (hi':P.types[t]? = some inf) (hsz:inf.size = i.size) (hby:inf.bytes = i.bytes) (hz:inf.zero = some z)
  (hzv:z.cells.toList.map ofV = i.zero) (hag:i.agg = (match i.und with | .struct _=>true | .array _ _=>true | _=>false)) (hzc:match i.agg with | true=>z = .agg z.cells | false=>z.cells = #[z])
  (shl:i.sh.length = i.size) (zl:i.zero.length = i.size) (one:match i.agg with | false=>i.size = 1 | true=>True) (hn:P.types.size = n) (fld:fldB n i.und = true)
  (plain:i.plain = true->(P.eqGuardType P.depth t = false ∧ ∀ (xs ys:Array Value) (w:World) (b:Bool),
   (∀ ι ok (vs us:List V), jv i.sh vs = true->VRL ι ok vs xs.toList->VRL ι ok us ys.toList->eqB vs us = some b->(Op.equal t (.agg xs) (.agg ys)).run P w = .ok b w)) ∧
   ((∃ fs, i.und = .struct fs)->(∃ fs, P.underlying t = some (.struct fs)) ∧ ∀ (b:Bool) (ι:Io) (ok:Nat->Prop) (vs:List V) (xs:Array Value) (w:World),
    jv i.sh vs = true->VRL ι ok vs xs.toList->(Instr.checkKey b 10000 t (.agg xs)).run P w = .ok () w)):TIOk P t i:=by
 have hi:P.info? t = some inf:=by
  have hlt:t < P.types.size:=(Array.getElem?_eq_some_iff.1 hi').1
  unfold Tables.info?
  rw [if_pos hlt, hi']
 refine ⟨hu, ⟨inf, z, hi, hsz, hby, hz, fun ι ok=>by rw [← hzv]; exact zkm ι ok _, fun h=>?_, fun h=>?_⟩, hag, shl, zl, fun h=>?_, fun fs hfs f hf=>?_, fun h=>(plain h).1, fun h g=>(plain h).2 g⟩
 ·rw [h] at hzc; exact ⟨_, hzc⟩
 ·rw [h] at hzc; exact hzc
 ·rw [h] at one; exact one
 ·rw [hfs] at fld
  simp only [fldB, List.all_eq_true] at fld
  have:=fld f hf
  have hlt:f.type < P.types.size:=by rw [hn]; exact Nat.lt_of_succ_le (Nat.le_of_ble_eq_true this)
  exact ⟨P.types[f.type], by simp [Tables.info?, hlt]⟩
end
section
variable {α:Type} {out:α} {h:H}
theorem ze {l:List V} {K:V->List V->M α} (e:zf l K h = some out):∃ x xs, l = x :: xs ∧ K x xs h = some out:=by
 cases l with
 | nil=>cases e
 | cons x xs=>exact ⟨x, xs, rfl, e⟩
theorem jj {l:List V} {K:M α} (e:jq l K h = some out):l = [] ∧ K h = some out:=by
 cases l with
 | nil=>exact ⟨rfl, e⟩
 | cons x xs=>cases e
end
def AllT (P:Program):List (Nat × TI)->Prop
 | []=>True
 | (t, i) :: l=>TIOk P t i ∧ AllT P l
theorem zlf {P:Program} {t:Nat} {i:TI}:∀ {L:List (Nat × TI)}, AllT P L->lookT L t = some i->TIOk P t i
 | [], _, h=>by cases h
 | (k, j) :: l, hL, h=>by
  unfold lookT at h
  cases hb:Nat.beq t k with
  | true=>
   rw [hb, cond_true] at h
   cases h
   rw [Nat.eq_of_beq_eq_true hb]; exact hL.1
  | false=>
   rw [hb, cond_false] at h
   exact zlf hL.2 h
end Go.Ab
