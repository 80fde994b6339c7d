import Derived.Test.YtdhjpnacjnkbgaaGreatDoorAb5
import Derived.Laws.BitsLemmas
set_option linter.unusedVariables false
set_option linter.unusedSimpArgs false
set_option linter.unusedSectionVars false
namespace Go.Ab
theorem zik (off:Nat):∀ (l:List Value) (k:Nat) (cs:Array Value), off + k + l.length≤cs.size ->
  (((l.zipIdx k).foldl (fun cs (x:Value × Nat)=>cs.setIfInBounds (off + x.2) x.1) cs).size = cs.size ∧
   ∀ j, ((l.zipIdx k).foldl (fun cs (x:Value × Nat)=>cs.setIfInBounds (off + x.2) x.1) cs)[j]? = if off + k≤j ∧ j < off + k + l.length then l[j - (off + k)]? else cs[j]?)
 | [], k, cs, _=>⟨rfl, fun j=>by rw [if_neg (by simp only [List.length_nil]; omega)]; rfl⟩
 | v :: l, k, cs, h=>by
  simp only [List.length_cons] at h
  simp only [List.zipIdx_cons, List.foldl_cons]
  obtain ⟨h1, h2⟩:=zik off l (k + 1) (cs.setIfInBounds (off + k) v) (by simp; omega)
  refine ⟨by rw [h1]; simp, fun j=>?_⟩
  rw [h2]
  simp only [List.length_cons]
  by_cases he:j = off + k
  ·subst he
   rw [if_neg (by omega), if_pos (by omega), Nat.sub_self, List.getElem?_cons_zero, Array.getElem?_setIfInBounds, if_pos rfl, if_pos (by omega)]
  ·by_cases hi:off + (k + 1)≤j ∧ j < off + (k + 1) + l.length
   ·rw [if_pos hi, if_pos (by omega), show j - (off + k) = (j - (off + (k + 1))) + 1 by omega, List.getElem?_cons_succ]
   ·rw [if_neg hi, if_neg (by omega), Array.getElem?_setIfInBounds, if_neg (fun e=>he e.symm)]
theorem zmv (off:Nat) (v cs:Array Value) (h:off + v.size≤cs.size) :
  (v.zipIdx.foldl (fun cs (x:Value × Nat)=>cs.setIfInBounds (off + x.2) x.1) cs).toList = cs.toList.take off ++ (v.toList ++ cs.toList.drop (off + v.toList.length)):=by
 rw [← Array.foldl_toList, Array.toList_zipIdx]
 obtain ⟨h1, h2⟩:=zik off v.toList 0 cs (by simpa using h)
 apply List.ext_getElem?
 intro j
 rw [Array.getElem?_toList, h2]
 simp only [Nat.add_zero, Array.length_toList]
 have hl:(cs.toList.take off).length = off:=by simp; omega
 by_cases hj:j < off
 ·rw [if_neg (by omega), List.getElem?_append_left (by omega), List.getElem?_take_of_lt hj, Array.getElem?_toList]
 ·rw [List.getElem?_append_right (by omega), hl]
  by_cases hk:j - off < v.size
  ·rw [if_pos (by omega), List.getElem?_append_left (by simpa using hk)]
  ·rw [if_neg (by omega), List.getElem?_append_right (by simp; omega), List.getElem?_drop, Array.getElem?_toList]
   congr 1
   simp
   omega
theorem zlw (cs:List V) (off:Nat) (vs:List V) (h:off + vs.length≤cs.length):(over cs off vs).length = cs.length:=by
 unfold over
 simp
 omega
section ops
variable {α:Type} {P:Program} {T:Tab} {base:Nat} {w0:World} {X:Nat->Prop} {ι:Io} {h:H} {w:World} {call:Call α} {o:Oper} {ρ:Frame}
 {ρ':Operand->Value} {K E:V->M α} {out:α}
theorem VRL.map (hρ:∀ x, VR ι (okOf h X) (ev T ρ x) (ρ' x)):∀ l:List Operand, VRL ι (okOf h X) (l.map (ev T ρ)) (l.map ρ')
 | []=>trivial
 | x :: l=>⟨hρ x, VRL.map hρ l⟩
theorem VR.cellsP {v:V} {x:Value} (hv:okP v = true) (hr:VR ι (okOf h X) v x):VRL ι (okOf h X) v.cells x.cells.toList:=by
 by_cases ho:oneV v = true
 ·exact hr.cells (by cases v <;> first | (simp [V.cells, ho]; done) | (simp [oneV] at ho))
 ·cases v <;> first | (simp [okP] at hv; done) | (simp [oneV] at ho; done) | skip
  obtain ⟨a, rfl, ha⟩:=hr
  exact ha
theorem zeo (hρ:∀ x, VR ι (okOf h X) (ev T ρ x) (ρ' x)) {p:Nat->Option (Nat × Nat)} {q:Nat->Option (Nat × Nat)} (hpq:∀ i a, p i = some a->q i = some a) {K:List V->M α} :
  ∀ (l:List (Nat × Operand)) (cs:List V) (xs:Array Value), VRL ι (okOf h X) cs xs.toList ->
   fillL p cs K (l.map fun (i, x)=>(i, ev T ρ x)) h = some out ->
   ∃ cs' xs', K cs' h = some out ∧ Instr.fill q xs (l.map fun (i, x)=>(i, ρ' x)) = some xs' ∧ xs'.size = xs.size ∧ cs'.length = cs.length ∧ VRL ι (okOf h X) cs' xs'.toList
 | [], cs, xs, hv, e=>⟨cs, xs, e, rfl, rfl, rfl, hv⟩
 | (i, x) :: l, cs, xs, hv, e=>by
  simp only [List.map_cons, fillL] at e
  simp only [List.map_cons, Instr.fill]
  cases hp:p i with
  | none=>rw [hp] at e; cases e
  | some a=>
   obtain ⟨off, size⟩:=a
   rw [hp] at e
   obtain ⟨hc, e⟩:=zg e
   simp only [Bool.and_eq_true] at hc
   have h1:=Nat.eq_of_beq_eq_true hc.2.1
   have h2:=Nat.le_of_ble_eq_true hc.2.2
   have hx:=(hρ x).cellsP hc.1
   have hl:=hx.length
   have hl2:=hv.length
   simp only [Array.length_toList] at hl hl2
   rw [hpq i _ hp]
   have hcond:¬ ((decide ((ρ' x).cells.size ≠ size) || decide (off + (ρ' x).cells.size > xs.size)) = true):=by
    simp only [Bool.or_eq_true, decide_eq_true_eq]
    omega
   simp only [if_neg hcond]
   have ho:=zmv off (ρ' x).cells xs (by omega)
   have hv':VRL ι (okOf h X) (over cs off (ev T ρ x).cells) ((ρ' x).cells.zipIdx.foldl (fun cs (x:Value × Nat)=>cs.setIfInBounds (off + x.2) x.1) xs).toList:=by
    rw [ho]; exact hv.over off hx
   obtain ⟨cs', xs', e2, h3, h4, h5, h6⟩:=zeo hρ hpq l _ _ hv' e
   refine ⟨cs', xs', e2, h3, ?_, ?_, h6⟩
   ·rw [h4, ← Array.length_toList, ho]
    simp only [List.length_append, List.length_take, List.length_drop, Array.length_toList]
    omega
   ·rw [h5]; exact zlw _ _ _ (by omega)
theorem zmr (P:Program) (w:World) (l:List Field) (hl:∀ f ∈ l, ∃ inf, P.info? f.type = some inf) :
  ((l.mapM fun f=>do pure (f.offset, ← sizeOf f.type):Sem (List (Nat × Nat)))).run P w = .ok (l.map fun f=>(f.offset, ((P.info? f.type).map (·.size)).getD 0)) w:=by
 induction l with
 | nil=>rfl
 | cons f l ih=>
  obtain ⟨inf, hf⟩:=hl f List.mem_cons_self
  have ih:=ih fun g hg=>hl g (List.mem_cons_of_mem _ hg)
  have hs:(sizeOf f.type).run P w = .ok inf.size w:=by simp [sizeOf, typeInfo, hf]
  simp only [List.mapM_cons, Sem.run_bind, ih, hs, hf, Sem.run_pure, Result.andThen_ok, List.map_cons, Option.map_some, Option.getD_some]
theorem op_build (hT:TabOk P T) (R:HR T base w0 X ι h w) (hρ:∀ x, VR ι (okOf h X) (ev T ρ x) (ρ' x)) {t:TypeId} {ps:Array (Nat × Operand)} (ho:o.op = .build t ps)
  (e:zi T call ρ o K E h = some out):zr P T base w0 X call ι h w o ρ' K E out:=by
 simp only [zi, ho] at e
 cases hi:T.ti t with
 | none=>rw [hi] at e; cases e
 | some i=>
 rw [hi] at e
 obtain ⟨und, a1, a2, z, a4, a5, a6⟩:=i
 have I:=hT.ti t _ hi
 obtain ⟨zv, hz, hzv, _⟩:=I.run_zero (w:=w)
 cases und with
 | struct fs=>
  dsimp only at e
  obtain ⟨cs, xs, e, hf, _, _, hv⟩:=zeo (q:=fun i=>(fs.toList.map fun f=>(f.offset, ((P.info? f.type).map (·.size)).getD 0)).toArray[i]?) hρ (by
   intro i a ha
   cases hf:fieldAt T fs i with
   | none=>rw [hf] at ha; cases ha
   | some r=>
    obtain ⟨off, ti⟩:=r
    rw [hf] at ha
    cases ha
    obtain ⟨f, h1, h2, h3⟩:=zcq hf
    obtain ⟨inf, z2, h4, h5, _⟩:=(hT.ti _ _ h2).info
    have:fs.toList[i]? = some f:=by rw [Array.getElem?_toList]; exact h1
    simp [this, h1, h3, h4, h5]) ps.toList z zv.cells (hzv _ _) e
  refine zr.pure (x:=.agg xs) R e ?_ ⟨xs, rfl, hv⟩
  have hpl:=zmr P w fs.toList (I.fld fs rfl)
  have hpl':(fs.mapM (fun f=>do pure (f.offset, ← sizeOf f.type):Field->Sem (Nat × Nat))).run P w = .ok (fs.toList.map fun f=>(f.offset, ((P.info? f.type).map (·.size)).getD 0)).toArray w:=by
   rw [Array.mapM_eq_mapM_toList, Sem.run_map]
   exact (congrArg (fun r=>Result.andThen r fun a w'=>.ok a.toArray w') hpl)
  simp only [execOp, ho, Instr.build, Sem.run_bind, hz, Result.andThen_ok, I.run_und, hpl', Array.toList_map, hf, Sem.run_pure]
 | array n el=>
  dsimp only at e
  cases hj:T.ti el with
  | none=>rw [hj] at e; cases e
  | some i=>
  rw [hj] at e
  have J:=hT.ti _ _ hj
  obtain ⟨cs, xs, e, hf, _, _, hv⟩:=zeo (q:=fun j=>some (j * i.size, i.size)) hρ (fun i a ha=>ha) ps.toList z zv.cells (hzv _ _) e
  refine zr.pure (x:=.agg xs) R e ?_ ⟨xs, rfl, hv⟩
  simp only [execOp, ho, Instr.build, Sem.run_bind, hz, Result.andThen_ok, I.run_und, J.run_size, Array.toList_map, hf, Sem.run_pure]
 | _=>cases e
theorem range_rep (zc:Array Value) (n:Nat):((Array.range ((n + 1) * zc.size)).map (zc[· % zc.size]!)).toList =
  zc.toList ++ ((Array.range (n * zc.size)).map (zc[· % zc.size]!)).toList:=by
 apply List.ext_getElem?
 intro j
 simp only [Array.toList_map, Array.toList_range, List.getElem?_map]
 by_cases h:j < zc.size
 ·rw [List.getElem?_append_left (by simpa using h), List.getElem?_range (by rw [Nat.add_mul]; omega)]
  simp only [Option.map_some, Nat.mod_eq_of_lt h]
  simp [h]
 ·rw [List.getElem?_append_right (by simpa using h)]
  simp only [List.getElem?_map, Array.length_toList]
  have hm:(j - zc.size) % zc.size = j % zc.size:=by
   conv=>rhs; rw [show j = (j - zc.size) + zc.size by omega, Nat.add_mod_right]
  by_cases h2:j < (n + 1) * zc.size
  ·rw [List.getElem?_range h2, List.getElem?_range (by rw [Nat.add_mul] at h2; omega)]
   simp only [Option.map_some, hm]
  ·rw [List.getElem?_eq_none (by simpa using h2), List.getElem?_eq_none (by simp; rw [Nat.add_mul] at h2; omega)]
theorem zdi {ok:Nat->Prop} {z:List V} {zc:Array Value} (hz:VRL ι ok z zc.toList):∀ n:Nat, VRL ι ok (rep n z) ((Array.range (n * zc.size)).map (zc[· % zc.size]!)).toList
 | 0=>by simp [rep, VRL]
 | n + 1=>by
  rw [range_rep]
  simp only [rep, List.replicate_succ, List.flatten_cons]
  exact hz.append (zdi hz n)
theorem zkd {n:Nat} {z:List V} (hz:z.all oneV = true):(rep n z).all oneV = true:=by
 rw [List.all_eq_true] at hz ⊢
 intro v hv
 simp only [rep, List.mem_flatten, List.mem_replicate] at hv
 obtain ⟨l, ⟨_, rfl⟩, hv⟩:=hv
 exact hz v hv
theorem ziz {ok:Nat->Prop} {z:List V} {zc:Array Value} (hz:VRL ι ok z zc.toList) (n:Nat) {r:Array Value} (hr:n * zc.size ≠ 0->r = zc) :
  VRL ι ok (rep n z) ((Array.range (n * zc.size)).map (r[· % r.size]!)).toList:=by
 by_cases h:n * zc.size = 0
 ·have h1:=zdi hz n
  rw [h] at h1 ⊢
  simpa using h1
 ·rw [hr h]; exact zdi hz n
theorem zia (hT:TabOk P T) (R:HR T base w0 X ι h w) (hX:∀ i, X i->i < h.next) (hρ:∀ x, VR ι (okOf h X) (ev T ρ x) (ρ' x)) {t:TypeId} {n:Nat} {ps:Array (Nat × Operand)} (ho:o.op = .buildSlice t n ps)
  (e:zi T call ρ o K E h = some out):zr P T base w0 X call ι h w o ρ' K E out:=by
 simp only [zi, ho] at e
 cases hi:T.ti t with
 | none=>rw [hi] at e; cases e
 | some i=>
 rw [hi] at e
 obtain ⟨und, a1, a2, z, a4, a5, a6⟩:=i
 have I:=hT.ti t _ hi
 cases und with
 | slice el=>
  dsimp only at e
  cases hj:T.ti el with
  | none=>rw [hj] at e; cases e
  | some i=>
  rw [hj] at e
  have J:=hT.ti _ _ hj
  obtain ⟨hle, e⟩:=zg e
  have hle:=Nat.le_of_ble_eq_true hle
  obtain ⟨zv, hz, hzv, _⟩:=J.run_zero (w:=w)
  have hzl:i.zero.length = zv.cells.size:=by have:=(hzv ι (okOf h X)).length; simpa using this
  have hzs:zv.cells.size = i.size:=by rw [← hzl, J.zl]
  have hrow:=ziz (hzv ι (okOf h X)) n (r:=if n * i.size = 0 then #[] else zv.cells) (fun hne=>by rw [hzs] at hne; rw [if_neg hne])
  rw [hzs] at hrow
  obtain ⟨cs, xs, e, hf, hs1, hs2, hv⟩:=zeo (q:=fun j=>some (j * i.size, i.size)) hρ (fun i a ha=>ha) ps.toList _ _ hrow e
  obtain ⟨_, e⟩:=zg e
  obtain ⟨hone, e⟩:=zkb e
  have hl:=hv.length
  refine zr.made (arr:=xs) (elem:=el) (x:=.slice (some ⟨w.heap.size, 0, none⟩) n n) R hX e hone (by simp at hl; omega) (by rw [hl, List.take_length]; exact hv) ?_ ?_
  ·have hgt:¬ n * i.size > 2 ^ 24:=by omega
   by_cases h0:n * i.size = 0
   ·have hf':Instr.fill (fun j=>some (j * i.size, i.size)) #[] (ps.toList.map fun (i, x)=>(i, ρ' x)) = some xs:=by
     rw [h0] at hf
     rw [← hf]
     congr 1
     exact (Array.eq_empty_of_size_eq_zero (by simp)).symm
    have e0:(Array.range 0).map (fun _:Nat=>(default:Value)) = #[]:=Array.eq_empty_of_size_eq_zero (by simp)
    simp [execOp, ho, Instr.buildSlice, I.run_und, J.run_size, h0, e0, hf', newRow]
   ·simp only [h0, if_false] at hf
    simp [execOp, ho, Instr.buildSlice, I.run_und, J.run_size, hgt, h0, hz, hf, newRow]
  ·unfold VR SlR
   refine ⟨⟨by show h.next < h.next + 1; omega, fun hx=>absurd (hX _ hx) (Nat.lt_irrefl _)⟩, _, _, rfl, .inr (by simp [Ad.to, Io.set]), Nat.le_refl _, rfl⟩
 | _=>cases e
theorem zkc (hT:TabOk P T) (R:HR T base w0 X ι h w) (hX:∀ i, X i->i < h.next) (hρ:∀ x, VR ι (okOf h X) (ev T ρ x) (ρ' x)) {t:TypeId} {l c:Operand} (ho:o.op = .makeSlice t l c)
  (e:zi T call ρ o K E h = some out):zr P T base w0 X call ι h w o ρ' K E out:=by
 simp only [zi, ho] at e
 cases hi:T.ti t with
 | none=>rw [hi] at e; cases e
 | some i=>
 rw [hi] at e
 obtain ⟨und, a1, a2, z, a4, a5, a6⟩:=i
 have I:=hT.ti t _ hi
 cases und with
 | slice el=>
  dsimp only at e
  cases hj:T.ti el with
  | none=>rw [hj] at e; cases e
  | some i=>
  rw [hj] at e
  have J:=hT.ti _ _ hj
  have hl:=hρ l
  have hc:=hρ c
  generalize ev T ρ l = u at e hl
  generalize ev T ρ c = u' at e hc
  cases u <;> cases u' <;> first | (cases e; done) | skip
  rename_i k l k2 c
  dsimp only at e
  have hl:ρ' _ = .int k l:=hl
  have hc:ρ' _ = .int k2 c:=hc
  unfold mkSl at e
  obtain ⟨h1, e⟩:=zg e
  obtain ⟨h2, e⟩:=zg e
  obtain ⟨h3, e⟩:=zg e
  obtain ⟨h4, e⟩:=zg e
  obtain ⟨h5, e⟩:=zg e
  have h1:=of_decide_eq_true h1
  have h2:=of_decide_eq_true h2
  have h3:=of_decide_eq_true h3
  have h4:=of_decide_eq_true h4
  obtain ⟨inf, _, hif, hsz, hby, _⟩:=J.run_info (w:=w)
  obtain ⟨zv, hz, hzv, _⟩:=J.run_zero (w:=w)
  have hzl:i.zero.length = zv.cells.size:=by have:=(hzv ι (okOf h X)).length; simpa using this
  have hzs:zv.cells.size = i.size:=by rw [← hzl, J.zl]
  have hrow:=ziz (hzv ι (okOf h X)) c.toNat (r:=if c.toNat * i.size = 0 then #[] else zv.cells) (fun hne=>by rw [hzs] at hne; rw [if_neg hne])
  rw [hzs] at hrow
  have hone:=zkd (n:=c.toNat) h5
  unfold rep at hrow hone
  have hlen:=hrow.length
  have hwl:IntKind.i64.wrap l = l:=by rw [IntKind.wrap_i64]; omega
  have hwc:IntKind.i64.wrap c = c:=by rw [IntKind.wrap_i64]; omega
  refine zr.made (arr:=(Array.range (c.toNat * i.size)).map ((if c.toNat * i.size = 0 then #[] else zv.cells)[· % (if c.toNat * i.size = 0 then #[] else zv.cells).size]!)) (elem:=el)
   (x:=.slice (some ⟨w.heap.size, 0, none⟩) l.toNat c.toNat) R hX e hone (by rw [hlen]; exact Nat.le_of_eq Array.length_toList) (by rw [hlen, List.take_length]; exact hrow) ?_ ?_
  ·have g1:¬ c < 0:=by omega
   have g2:¬ 281474976710656 < (i.bytes:Int) * c:=by rw [Int.mul_comm]; omega
   have g3:¬ l < 0:=by omega
   have g4:¬ l > c:=by omega
   have hask:(askRoom (c.toNat * i.bytes)).run P w = .ok () w:=by unfold askRoom; split <;> rfl
   by_cases h0:c.toNat * i.size = 0
   ·simp [execOp, ho, hl, hc, Instr.makeSlice, I.run_und, asInt, asIntOf, hif, hby, hwl, hwc, g1, g2, g3, g4, hask, J.run_size, h0, newRow]
   ·simp [execOp, ho, hl, hc, Instr.makeSlice, I.run_und, asInt, asIntOf, hif, hby, hwl, hwc, g1, g2, g3, g4, hask, J.run_size, h0, hz, newRow]
  ·unfold VR SlR
   refine ⟨⟨by show h.next < h.next + 1; omega, fun hx=>absurd (hX _ hx) (Nat.lt_irrefl _)⟩, _, _, rfl, .inr (by simp [Ad.to, Io.set]), ?_, rfl⟩
   show l.toNat≤c.toNat
   omega
 | _=>cases e
theorem zmn (R:HR T base w0 X ι h w) (hX:∀ i, X i->i < h.next) {t:TypeId} (ho:o.op = .makeMap t none)
  (e:zi T call ρ o K E h = some out):zr P T base w0 X call ι h w o ρ' K E out:=by
 simp only [zi, ho] at e
 unfold newMap at e
 have:=R.push (b:=.map []) (o:=.map #[] 0) (p:=⟨w.heap.size, 0, 0⟩) hX rfl ⟨#[], 0, by rw [yg, if_pos rfl], R.size, trivial, trivial, rfl, fun i e h=>by simp at h⟩
 refine .inl ⟨_, _, _, .map (some w.heap.size), _, e, .inl ?_, this.1, this.2, ?_⟩
 ·simp [execOp, ho, Instr.makeMap]
 ·exact ⟨⟨by show h.next < h.next + 1; omega, fun hx=>absurd (hX _ hx) (Nat.lt_irrefl _)⟩, by simp [Io.set]⟩
theorem zmz {und:TypeDesc} (hni:∀ ms, und ≠ .interface ms) {t xt:TypeId} {zv:Value} (hu:(underlying t).run P w = .ok und w) (hz:(zeroValue t).run P w = .ok zv w) :
  (Instr.typeAssert .nilIface xt t true).run P w = .ok (.tuple #[zv, .bool false]) w:=by
 unfold Instr.typeAssert
 simp only [Sem.run_bind, hu, Result.andThen_ok]
 split
 all_goals first
  | (exact (hni _ (by assumption)).elim)
  | (exact (hni _ rfl).elim)
  | (simp [hz]; done)
  | (exfalso; simp_all; done)
theorem zen {und:TypeDesc} (hni:∀ ms, und ≠ .interface ms) {t t' xt:TypeId} {v zv:Value} (hu:(underlying t).run P w = .ok und w) (hz:(zeroValue t).run P w = .ok zv w) :
  (Instr.typeAssert (.iface t' v) xt t true).run P w = if t' = t then .ok (.tuple #[v, .bool true]) w else .ok (.tuple #[zv, .bool false]) w:=by
 unfold Instr.typeAssert
 simp only [Sem.run_bind, hu, Result.andThen_ok]
 split
 all_goals first
  | (exact (hni _ (by assumption)).elim)
  | (exact (hni _ rfl).elim)
  | (rename_i h; cases h; done)
  | rfl
  | (show ((zeroValue t >>= fun z=>pure (.tuple #[z, .bool false]):Sem Value)).run P w = _
     simp [hz]; done)
  | (exfalso; rename_i h1 h2 h3 h4; exact h4 _ _ rfl)
  | (exfalso; rename_i h1 h2 h3 h4; exact h3 _ _ rfl)
  | skip
theorem zib (hT:TabOk P T) (R:HR T base w0 X ι h w) (hρ:∀ x, VR ι (okOf h X) (ev T ρ x) (ρ' x)) {t xt:TypeId} {x:Operand} (ho:o.op = .typeAssert x xt t true)
  (e:zi T call ρ o K E h = some out):zr P T base w0 X call ι h w o ρ' K E out:=by
 simp only [zi, ho] at e
 cases hi:T.ti t with
 | none=>rw [hi] at e; cases e
 | some i=>
 rw [hi] at e
 obtain ⟨und, a1, a2, z, a4, agg, a6⟩:=i
 have I:=hT.ti t _ hi
 obtain ⟨zv, hz, hzv, hz1, hz2⟩:=I.run_zero (w:=w)
 have hu:=I.run_und (w:=w)
 have hx:=hρ x
 generalize ev T ρ x = u at e hx
 have hzr:∀ v, (if agg then v = .agg z else z = [v])->VR ι (okOf h X) v zv:=by
  intro v hv
  have h1:=hzv ι (okOf h X)
  cases agg with
  | true=>
   simp only [if_true] at hv
   obtain ⟨cs, rfl⟩:=hz1 rfl
   rw [hv]
   exact ⟨cs, rfl, h1⟩
  | false=>
   simp only [Bool.false_eq_true, if_false] at hv
   have h2:=hz2 rfl
   rw [h2] at h1
   dsimp only at h1
   rw [hv] at h1
   exact h1.1
 have key:zhr u t (fun v=>K (.tuple [v, .bool true])) (mk agg z fun z=>K (.tuple [z, .bool false])) h = some out->(∀ ms, und ≠ .interface ms) ->
   zr P T base w0 X call ι h w o ρ' K E out:=by
  intro e2 hni
  clear e
  unfold zhr at e2
  split at e2
  ·have hx:ρ' x = .nilIface:=hx
   obtain ⟨v, hv, e2⟩:=zfc e2
   refine zr.pure (x:=.tuple #[zv, .bool false]) R e2 ?_ ⟨_, rfl, hzr v hv, rfl, trivial⟩
   simp [execOp, ho, hx, zmz hni hu hz]
  ·rename_i t' v
   obtain ⟨y, hx, hr⟩:=hx
   cases hb:Nat.beq t' t with
   | true=>
    rw [hb] at e2
    have e2:K (.tuple [v, .bool true]) h = some out:=e2
    have ht:=Nat.eq_of_beq_eq_true hb
    subst ht
    refine zr.pure (x:=.tuple #[y, .bool true]) R e2 ?_ ⟨_, rfl, hr, rfl, trivial⟩
    simp [execOp, ho, hx, zen hni hu hz]
   | false=>
    rw [hb] at e2
    have e2:mk agg z (fun z=>K (.tuple [z, .bool false])) h = some out:=e2
    have ht:t' ≠ t:=fun h=>by subst h; simp at hb
    obtain ⟨v, hv, e2⟩:=zfc e2
    refine zr.pure (x:=.tuple #[zv, .bool false]) R e2 ?_ ⟨_, rfl, hzr v hv, rfl, trivial⟩
    simp [execOp, ho, hx, zen hni hu hz, ht]
  ·cases e2
 cases und with
 | interface ms=>cases e
 | _=>exact key e (fun ms h=>by cases h)
end ops
end Go.Ab
