import Derived.Test.YtjohdighlhoofaaDoorAb14
import Derived.Laws.StructEq
set_option linter.unusedVariables false
set_option linter.unusedSimpArgs false
namespace Go.Ab
section
variable {P:Program}
def BasicT (P:Program) (t:TypeId):Sh->Prop
 | .int k=>P.underlying t = some (.int k)
 | .bool=>P.underlying t = some .bool
 | .str=>P.underlying t = some .string
 | _=>False
def zle (P:Program):Nat->List Field->List Sh->Prop
 | _, [], []=>True
 | i, f :: fs, s :: ss=>(f.name != "_") = true ∧ f.offset = i ∧ BasicT P f.type s ∧ zle P (i + 1) fs ss
 | _, _, _=>False
theorem zns {t:TypeId} {s:Sh} (h:BasicT P t s):∃ d, P.underlying t = some d ∧ (∀ w, (isAgg t).run P w = .ok false w):=by
 cases s <;> first | exact h.elim | skip
 all_goals exact ⟨_, h, fun w=>by simp [isAgg, run_underlying (show P.underlying t = some _ from h)]⟩
theorem basic_eq {ι:Io} {ok:Nat->Prop} {t:TypeId} {s:Sh} {v u:V} {x y:Value} {b:Bool} (hb:BasicT P t s) (hf:fitSh s v = true) (hx:VR ι ok v x) (hy:VR ι ok u y) (he:eq1B v u = some b) (n:Nat)
  (w:World):(Op.equalIn (n + 1) t x y).run P w = .ok b w:=by
 unfold fitSh at hf
 split at hf
 ·rename_i k j a
  cases u <;> first | (cases he; done) | skip
  rename_i k2 c
  simp only [eq1B] at he
  cases hk:yz j k2 with
  | false=>rw [hk] at he; cases he
  | true=>
   rw [hk] at he
   cases he
   rw [show x = _ from hx, show y = _ from hy, zee hk]
   rw [run_equalIn_int w n t k2 k a c hb]
   rfl
 ·rename_i a
  cases u <;> first | (cases he; done) | skip
  rename_i c
  cases he
  rw [show x = _ from hx, show y = _ from hy, run_equalIn_bool' w n t a c hb]
  cases a <;> cases c <;> rfl
 ·rename_i a
  cases u <;> first | (cases he; done) | skip
  rename_i c
  cases he
  obtain ⟨p, rfl, rfl⟩:=hx
  obtain ⟨q, rfl, rfl⟩:=hy
  rw [run_equalIn_string w n t p q hb, bytes_beq]
 ·cases hf
theorem zgx {ι:Io} {ok:Nat->Prop} {xs ys:Array Value} (n:Nat) (w:World):∀ (fs:List Field) (ss:List Sh) (i:Nat) (vs us:List V) (b:Bool), zle P i fs ss->zco ss vs = true ->
  VRL ι ok vs (xs.toList.drop i)->VRL ι ok us (ys.toList.drop i)->eqB vs us = some b->(Op.eqFields (n + 1) xs ys fs).run P w = .ok b w
 | [], [], i, [], [], b, _, _, _, _, he=>by cases he; rfl
 | f :: fs, s :: ss, i, v :: vs, u :: us, b, hB, hf, hx, hy, he=>by
  obtain ⟨h1, h2, h3, h4⟩:=hB
  have hfa:fitSh s v = true ∧ zco ss vs = true:=by simpa [zco] using hf
  have key:∀ {zs:Array Value} {v:V} {vs:List V}, VRL ι ok (v :: vs) (zs.toList.drop i)->∃ z, zs[i]? = some z ∧ VR ι ok v z ∧ VRL ι ok vs (zs.toList.drop (i + 1)):=by
   intro zs v vs h
   cases hd:zs.toList.drop i with
   | nil=>rw [hd] at h; exact h.elim
   | cons z r=>
    rw [hd] at h
    refine ⟨z, ?_, h.1, ?_⟩
    ·have:(zs.toList.drop i)[0]? = some z:=by rw [hd]; rfl
     rw [List.getElem?_drop] at this
     simpa using this
    ·have:zs.toList.drop (i + 1) = r:=by rw [← List.drop_drop, hd]; rfl
     rw [this]; exact h.2
  obtain ⟨x, hx1, hx2, hx3⟩:=key hx
  obtain ⟨y, hy1, hy2, hy3⟩:=key hy
  obtain ⟨d, _, hag⟩:=zns h3
  have px:(Go.part f.type xs f.offset).run P w = .ok x w:=by simp [Go.part, hag, h2, hx1]
  have py:(Go.part f.type ys f.offset).run P w = .ok y w:=by simp [Go.part, hag, h2, hy1]
  simp only [eqB] at he
  cases he1:eq1B v u with
  | none=>rw [he1] at he; cases he
  | some b1=>
   cases he2:eqB vs us with
   | none=>rw [he1, he2] at he; cases he
   | some b2=>
    rw [he1, he2] at he
    cases he
    have h0:f.name ≠ "_":=by simpa using h1
    have hq:=basic_eq (P:=P) h3 hfa.1 hx2 hy2 he1 n w
    have hr:=zgx n w fs ss (i + 1) vs us b2 h4 hfa.2 hx3 hy3 he2
    simp only [Op.eqFields, ne_eq, h0, not_false_eq_true, if_true, Sem.run_bind, px, py, Result.andThen_ok, hq]
    cases b1
    ·rfl
    ·simpa using hr
 | [], [], i, [], _ :: _, b, _, _, _, _, he=>by cases he
 | [], [], i, _ :: _, _, b, _, hf, _, _, _=>by simp [zco] at hf
 | [], _ :: _, _, _, _, _, h, _, _, _, _=>h.elim
 | _ :: _, [], _, _, _, _, h, _, _, _, _=>h.elim
 | _ :: _, _ :: _, _, [], _, _, _, hf, _, _, _=>by simp [zco] at hf
 | _ :: _, _ :: _, _, _ :: _, [], _, _, _, _, _, he=>by cases he
theorem zfv {t:TypeId} {fs:Array Field} {ss:List Sh} (hu:P.underlying t = some (.struct fs)) (hs:P.stoodInHeld t = false) (hg:P.eqGuardType P.depth t = false) (hB:zle P 0 fs.toList ss) :
  P.eqGuardType P.depth t = false ∧ ∀ (xs ys:Array Value) (w:World) (b:Bool),
   (∀ ι ok (vs us:List V), zco ss vs = true->VRL ι ok vs xs.toList->VRL ι ok us ys.toList->eqB vs us = some b->(Op.equal t (.agg xs) (.agg ys)).run P w = .ok b w):=by
 refine ⟨hg, fun xs ys w b ι ok vs us hf hx hy he=>?_⟩
 have hfs:P.fieldsOf t = fs:=by unfold Program.fieldsOf; rw [hu]
 show (Op.equalIn (9999 + 1) t (.agg xs) (.agg ys)).run P w = _
 rw [run_equalIn_struct w 9999 t xs ys (by rw [hfs]; exact hu) hs, hfs]
 exact zgx 9998 w fs.toList ss 0 vs us b hB hf hx hy he
def fldB (n:Nat):TypeDesc->Bool
 | .struct fs=>fs.toList.all fun f=>Nat.blt f.type n
 | _=>true
theorem TIOk.of {t:TypeId} {i:TI} {inf:TypeInfo} {z:Value} (n:Nat) (hu:P.underlying t = some i.und) (hi':P.types[t]? = some inf) (hsz:inf.size = i.size) (hby:inf.bytes = i.bytes) (hz:inf.zero = some z)
  (hzv:z.cells.toList.map ofV = i.zero) (hag:i.agg = (match i.und with | .struct _=>true | .array _ _=>true | _=>false)) (hzc:match i.agg with | true=>z = .agg z.cells | false=>z.cells = #[z])
  (shl:i.sh.length = i.size) (zl:i.zero.length = i.size) (one:match i.agg with | false=>i.size = 1 | true=>True) (hn:P.types.size = n) (fld:fldB n i.und = true)
  (plain:i.plain = true->P.eqGuardType P.depth t = false ∧ ∀ (xs ys:Array Value) (w:World) (b:Bool),
   (∀ ι ok (vs us:List V), zco i.sh vs = true->VRL ι ok vs xs.toList->VRL ι ok us ys.toList->eqB vs us = some b->(Op.equal t (.agg xs) (.agg ys)).run P w = .ok b w)):TIOk P t i:=by
 have hi:P.info? t = some inf:=by
  have hlt:t < P.types.size:=(Array.getElem?_eq_some_iff.1 hi').1
  unfold Tables.info?
  rw [if_pos hlt, hi']
 refine ⟨hu, ⟨inf, z, hi, hsz, hby, hz, fun ι ok=>by rw [← hzv]; exact zll ι ok _, fun h=>?_, fun h=>?_⟩, hag, shl, zl, fun h=>?_, fun fs hfs f hf=>?_, plain⟩
 ·rw [h] at hzc; exact ⟨_, hzc⟩
 ·rw [h] at hzc; exact hzc
 ·rw [h] at one; exact one
 ·rw [hfs] at fld
  simp only [fldB, List.all_eq_true] at fld
  have:=fld f hf
  have hlt:f.type < P.types.size:=by rw [hn]; exact Nat.lt_of_succ_le (Nat.le_of_ble_eq_true this)
  exact ⟨P.types[f.type], by simp [Tables.info?, hlt]⟩
end
section
variable {α:Type} {out:α} {h:H}
theorem yx {l:List V} {K:V->List V->M α} (e:zbt l K h = some out):∃ x xs, l = x :: xs ∧ K x xs h = some out:=by
 cases l with
 | nil=>cases e
 | cons x xs=>exact ⟨x, xs, rfl, e⟩
theorem zgh {l:List V} {K:M α} (e:unnil l K h = some out):l = [] ∧ K h = some out:=by
 cases l with
 | nil=>exact ⟨rfl, e⟩
 | cons x xs=>cases e
end
end Go.Ab
