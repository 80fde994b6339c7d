import Derived.Test.YtdhjpnacjnkbgaaGreatDoorAb7
import Derived.MapKept
import Derived.Laws.AppendOwn
set_option linter.unusedVariables false
set_option linter.unusedSimpArgs false
set_option linter.unusedSectionVars false
namespace Go.Ab
section ops
variable {α:Type} {P:Program} {T:Tab} {base:Nat} {w0:World} {X:Nat->Prop} {ι:Io} {h:H} {w:World} {call:Call α} {o:Oper} {ρ:Frame}
 {ρ':Operand->Value} {K E:V->M α} {out:α}
theorem ownK_inv {s:Sl} {K:M α} (e:ownK s K h = some out):∃ a, 0 < s.cap ∧ s.ad = some a ∧ h.own a.id = true ∧ K h = some out:=by
 unfold ownK at e
 obtain ⟨h1, e⟩:=zg e
 cases ha:s.ad with
 | none=>rw [ha] at e; cases e
 | some a=>
  rw [ha] at e
  dsimp only at e
  cases ho:h.own a.id with
  | false=>rw [ho] at e; cases e
  | true=>rw [ho] at e; exact ⟨a, Nat.lt_of_succ_le (Nat.le_of_ble_eq_true h1), rfl, ho, e⟩
theorem zms (hT:TabOk P T) (R:HR T base w0 X ι h w) (hX:∀ i, X i->i < h.next) (hρ:∀ x, VR ι (okOf h X) (ev T ρ x) (ρ' x)) {s d:TypeId} {x:Operand} (ho:o.op = .convert s d x)
  (e:zi T call ρ o K E h = some out):zr P T base w0 X call ι h w o ρ' K E out:=by
 simp only [zi, ho] at e
 unfold conv at e
 have hx:=hρ x
 have run:∀ {y:Value} {w':World}, (convert s d (ρ' x)).run P w = .ok y w'->(execOp ρ' o).run P w = .ok (.value y) w':=fun hr=>by simp [execOp, ho, hr]
 generalize ev T ρ x = u at e hx
 cases hs:T.ti s with
 | none=>rw [hs] at e; cases e
 | some si=>
 cases hd:T.ti d with
 | none=>rw [hs, hd] at e; cases e
 | some di=>
 rw [hs, hd] at e
 have hsu:=(hT.ti _ _ hs).und
 have hdu:=(hT.ti _ _ hd).und
 obtain ⟨su, _, _, _, _, _, _⟩:=si
 obtain ⟨du, _, _, _, _, _, _⟩:=di
 dsimp only at e hsu hdu
 cases u with
 | int j n=>
  cases du with
  | int k=>
   dsimp only at e
   exact zr.pure R e (run (by simp [convert, run_underlying hsu, run_underlying hdu, show ρ' x = _ from hx, Conv.intToInt])) rfl
  | _=>cases e
 | str b=>
  obtain ⟨y, hy, rfl⟩:=hx
  cases du with
  | string=>exact zr.pure R e (run (by simp [convert, run_underlying hsu, run_underlying hdu, hy])) ⟨y, rfl, rfl⟩
  | slice el=>
   cases su with
   | string=>
    dsimp only at e
    cases hj:T.ti el with
    | none=>rw [hj] at e; cases e
    | some ji=>
    rw [hj] at e
    have hju:=(hT.ti _ _ hj).und
    obtain ⟨ju, _, _, _, _, _, _⟩:=ji
    dsimp only at hju
    cases ju with
    | int k=>
     cases k <;> first | (cases e; done) | skip
     obtain ⟨v, h', ι', x', w', e', hr, R', W', hv⟩:=zmq R hX hsu hdu hju e
     rw [← hy] at hr
     exact .inl ⟨v, h', ι', x', w', e', .inl (run hr), R', W', hv⟩
    | _=>cases e
   | _=>cases e
  | _=>cases e
 | slice sl=>
  cases du with
  | string=>
   cases su with
   | slice el=>
    dsimp only at e
    cases hj:T.ti el with
    | none=>rw [hj] at e; cases e
    | some ji=>
    rw [hj] at e
    have hju:=(hT.ti _ _ hj).und
    obtain ⟨ju, _, _, _, _, _, _⟩:=ji
    dsimp only at hju
    cases ju with
    | int k=>
     cases k <;> first | (cases e; done) | skip
     obtain ⟨b, e', hr⟩:=conv_back R hx hsu hdu hju e
     exact zr.pure R e' (run hr) ⟨b, rfl, rfl⟩
    | _=>cases e
   | _=>cases e
  | slice el=>
   dsimp only at e
   cases hj:T.ti el with
   | none=>rw [hj] at e; cases e
   | some ji=>
   rw [hj] at e
   have hju:=(hT.ti _ _ hj).und
   obtain ⟨ju, _, _, _, _, _, _⟩:=ji
   dsimp only at hju
   cases ju with
   | int k=>
    cases k <;> first | (cases e; done) | skip
    dsimp only at e
    obtain ⟨hsd, e1⟩:=zg e
    have hsd:=Nat.eq_of_beq_eq_true hsd
    subst hsd
    obtain ⟨a, hc0, ha, hown, e2⟩:=ownK_inv e1
    have hx0:SlR ι (okOf h X) sl (ρ' x):=hx
    unfold SlR at hx0
    rw [ha] at hx0
    obtain ⟨hok, b, c, hxx, hb, hle, hlo⟩:=hx0
    have hc:c ≠ 0:=by
     cases hl:sl.loose with
     | none=>rw [hl] at hlo; dsimp only at hlo; omega
     | some z=>rw [hl] at hlo; have:=hlo.1; omega
    have hb:=hb.resolve_left hc
    obtain ⟨n, hsh, R', W'⟩:=R.markOwn (P:=P) hok.2 hown
    refine .inl ⟨_, h, ι, ρ' x, _, e2, .inl (run ?_), R', W', hx⟩
    have hbb:b.block = (ι a.id).cb:=by rw [hb]; rfl
    simp [convert, run_underlying hdu, run_underlying hju, hxx, markStringish, hbb, hsh]
   | _=>cases e
  | _=>cases e
 | _=>cases du <;> cases e
theorem zbe {j k:IntKind} (h:yc j k = true):j = k:=by
 cases j <;> cases k <;> first | rfl | cases h
theorem zgu {ok:Nat->Prop} {d:TypeDesc} {k:V} {y:Value} (hk:zeb d k = true) (hv:VR ι ok k y):MapKept.IsKey d y:=by
 unfold zeb at hk
 split at hk
 ·rw [show y = _ from hv, zbe hk]; rfl
 ·obtain ⟨b, rfl, _⟩:=hv; trivial
 ·rw [show y = _ from hv]; trivial
 ·cases hk
theorem ba_beq (a b:ByteArray):(a == b) = decide (a.data.toList = b.data.toList):=by
 by_cases h:a.data.toList = b.data.toList
 ·have:a = b:=by
   obtain ⟨⟨x⟩⟩:=a
   obtain ⟨⟨y⟩⟩:=b
   simp at h
   rw [h]
  rw [decide_eq_true h]
  exact (MapKept.bytes_beq a b).2 this
 ·rw [decide_eq_false h]
  cases hb:a == b with
  | false=>rfl
  | true=>exact absurd (congrArg (fun x:ByteArray=>x.data.toList) ((MapKept.bytes_beq a b).1 hb)) h
theorem keq_ok {ok:Nat->Prop} {d:TypeDesc} {k l:V} {y z:Value} (hk:zeb d k = true) (hv:VR ι ok k y) (hz:VR ι ok l z) {b:Bool} (hb:keq k l = some b) :
  Instr.sameNow d y z = some b:=by
 cases k <;> cases l <;> simp only [keq] at hb <;> first | (cases hb; done) | skip
 ·cases hb
  rw [show y = _ from hv, show z = _ from hz]
  cases d <;> first | (cases hk; done) | skip
  rename_i a b
  by_cases h:a = b
  ·subst h; simp [Instr.sameNow]
  ·simp [Instr.sameNow, h]
 ·rename_i j a k b'
  cases hj:yc j k with
  | false=>rw [hj] at hb; cases hb
  | true=>
   rw [hj] at hb
   have:=zbe hj
   subst this
   cases hb
   rw [show y = _ from hv, show z = _ from hz]
   cases d <;> first | (cases hk; done) | skip
   by_cases h:a = b'
   ·subst h; simp [Instr.sameNow]
   ·simp [Instr.sameNow, h]
 ·obtain ⟨a, rfl, rfl⟩:=hv
  obtain ⟨c, rfl, rfl⟩:=hz
  cases hb
  cases d <;> first | (cases hk; done) | skip
  simp [Instr.sameNow, ba_beq]
 ·exact absurd hk (by cases d <;> simp [zeb])
theorem zll {ok:Nat->Prop} {d:TypeDesc} {k:V} {y:Value} (hk:zeb d k = true) (hv:VR ι ok k y):∀ (es:List (V × V)) (ces:List MapEntry) (i:Nat),
  VRL ι ok (es.map (·.1)) (ces.map (·.key))->VRL ι ok (es.map (·.2)) (ces.map (·.val))->∀ r, zee k es = some r ->
   (r = none ∧ Instr.findNow d y ces i = some none) ∨ ∃ (v:V) (j:Nat) (c:MapEntry), r = some v ∧ Instr.findNow d y ces i = some (some (j, c.val)) ∧ VR ι ok v c.val
 | [], [], i, _, _, r, hr=>by cases hr; exact .inl ⟨rfl, rfl⟩
 | e :: es, c :: ces, i, h1, h2, r, hr=>by
  simp only [zee] at hr
  cases hq:keq k e.1 with
  | none=>rw [hq] at hr; cases hr
  | some b=>
   have hs:=keq_ok hk hv h1.1 hq
   rw [hq] at hr
   cases b with
   | true=>cases hr; exact .inr ⟨e.2, i, c, rfl, by simp [Instr.findNow, hs], h2.1⟩
   | false=>
    rcases zll hk hv es ces (i + 1) h1.2 h2.2 r hr with ⟨g1, g2⟩ | ⟨v, j, c', g1, g2, g3⟩
    ·exact .inl ⟨g1, by simp [Instr.findNow, hs, g2]⟩
    ·exact .inr ⟨v, j, c', g1, by simp [Instr.findNow, hs, g2], g3⟩
 | [], _ :: _, _, h1, _, _, _=>h1.elim
 | _ :: _, [], _, h1, _, _, _=>h1.elim
theorem zjd {d:TypeDesc} {y z:Value} (hy:MapKept.IsKey d y) (h:Instr.sameNow d y z = some true):z = y:=by
 cases d <;> cases y <;> cases z <;> simp_all [MapKept.IsKey, Instr.sameNow, MapKept.bytes_beq]
theorem putK_ok {ok:Nat->Prop} {d:TypeDesc} {k v:V} {y:Value} (hk:zeb d k = true) (hv:VR ι ok k y):∀ (es:List (V × V)) (ces:List MapEntry) (i:Nat),
  VRL ι ok (es.map (·.1)) (ces.map (·.key))->∀ r, putK k v es = some r ->
   (r = es ++ [(k, v)] ∧ Instr.findNow d y ces i = some none) ∨ ∃ (j:Nat) (c:MapEntry), r = es.set j (k, v) ∧ Instr.findNow d y ces i = some (some (i + j, c.val)) ∧ ces[j]? = some c ∧ c.key = y
 | [], [], i, _, r, hr=>by cases hr; exact .inl ⟨rfl, rfl⟩
 | e :: es, c :: ces, i, h1, r, hr=>by
  simp only [putK] at hr
  cases hq:keq k e.1 with
  | none=>rw [hq] at hr; cases hr
  | some b=>
   have hs:=keq_ok hk hv h1.1 hq
   rw [hq] at hr
   cases b with
   | true=>cases hr; exact .inr ⟨0, c, rfl, by simp [Instr.findNow, hs], rfl, zjd (zgu hk hv) hs⟩
   | false=>
    cases hp:putK k v es with
    | none=>rw [hp] at hr; cases hr
    | some r'=>
     rw [hp] at hr
     cases hr
     rcases putK_ok hk hv es ces (i + 1) h1.2 r' hp with ⟨g1, g2⟩ | ⟨j, c', g1, g2, g3, g4⟩
     ·exact .inl ⟨by rw [g1]; rfl, by simp [Instr.findNow, hs, g2]⟩
     ·exact .inr ⟨j + 1, c', by rw [g1]; rfl, by simp [Instr.findNow, hs, g2]; omega, by simpa using g3, g4⟩
 | [], _ :: _, _, h1, _, _=>h1.elim
 | _ :: _, [], _, h1, _, _=>h1.elim
theorem eq1B_eq {ok:Nat->Prop} {v u:V} {x y:Value} (hx:VR ι ok v x) (hy:VR ι ok u y) (h:eq1B v u = some true):y = x:=by
 cases v <;> cases u <;> simp only [eq1B] at h <;> first | (cases h; done) | skip
 ·rename_i a b
  have:a = b:=by simpa using h
  subst this
  rw [show x = _ from hx, show y = _ from hy]
 ·rename_i j a k b
  cases hj:yc j k with
  | false=>rw [hj] at h; cases h
  | true=>
   rw [hj] at h
   have h1:=zbe hj
   have h2:a = b:=by simpa using h
   subst h1 h2
   rw [show x = _ from hx, show y = _ from hy]
 ·obtain ⟨p, rfl, rfl⟩:=hx
  obtain ⟨q, rfl, hq⟩:=hy
  have h2:p.data.toList = q.data.toList:=by rw [hq]; simpa using h
  have h3:=ba_beq q p
  rw [decide_eq_true h2.symm] at h3
  rw [(MapKept.bytes_beq q p).1 h3]
theorem eqB_eq {ok:Nat->Prop}:∀ {vs us:List V} {xs ys:List Value}, VRL ι ok vs xs->VRL ι ok us ys->eqB vs us = some true->ys = xs
 | [], [], [], [], _, _, _=>rfl
 | v :: vs, u :: us, x :: xs, y :: ys, hx, hy, h=>by
  simp only [eqB] at h
  cases h1:eq1B v u with
  | none=>rw [h1] at h; cases h
  | some b=>
   cases h2:eqB vs us with
   | none=>rw [h1, h2] at h; cases h
   | some c=>
    rw [h1, h2] at h
    have h3:b = true ∧ c = true:=by simpa using h
    rw [eq1B_eq hx.1 hy.1 (by rw [h1, h3.1]), eqB_eq hx.2 hy.2 (by rw [h2, h3.2])]
 | [], [], _ :: _, _, h, _, _=>h.elim
 | [], [], [], _ :: _, _, h, _=>h.elim
 | [], _ :: _, _, _, _, _, h=>by cases h
 | _ :: _, [], _, _, _, _, h=>by cases h
 | _ :: _, _ :: _, [], _, h, _, _=>h.elim
 | _ :: _, _ :: _, _ :: _, [], _, h, _=>h.elim
theorem zld {ok:Nat->Prop} (n:Nat):∀ {ss:List Sh} {vs:List V} {xs:List Value}, jv ss vs = true->VRL ι ok vs xs->((xs.zip xs).all fun (x, y)=>Instr.sameBits n x y) = true
 | [], [], [], _, _=>rfl
 | s :: ss, v :: vs, x :: xs, h, hx=>by
  simp only [jv, Bool.and_eq_true] at h
  rw [List.zip_cons_cons, List.all_cons, zld n h.2 hx.2, Bool.and_true]
  have h1:=h.1
  unfold zel at h1
  split at h1
  ·rw [show x = _ from hx.1]; cases n <;> simp [Instr.sameBits]
  ·rw [show x = _ from hx.1]; cases n <;> simp [Instr.sameBits]
  ·obtain ⟨b, rfl, _⟩:=hx.1
   have:(b == b) = true:=(MapKept.bytes_beq b b).2 rfl
   cases n <;> simp [Instr.sameBits, this]
  ·cases h1
 | [], [], _ :: _, _, h=>h.elim
 | _ :: _, _ :: _, [], _, h=>h.elim
 | [], _ :: _, _, h, _=>by simp [jv] at h
 | _ :: _, [], _, h, _=>by simp [jv] at h
theorem zcm {i:TI} {k:V} (h:zcx i k = true):zeb i.und k = true ∨ ∃ cs, k = .agg cs ∧ i.plain = true ∧ jv i.sh cs = true ∧ ∃ fs, i.und = .struct fs:=by
 unfold zcx at h
 cases h1:zeb i.und k with
 | true=>exact .inl rfl
 | false=>
  rw [h1, Bool.false_or] at h
  split at h
  ·rename_i fs cs hu
   rw [Bool.and_eq_true] at h
   exact .inr ⟨cs, rfl, h.1, h.2, fs, hu⟩
  ·cases h
theorem zjc {ok:Nat->Prop} {kt:TypeId} {ki:TI} {k:V} {y:Value} (KI:TIOk P kt ki) (hk:zcx ki k = true) (hv:VR ι ok k y) (b:Bool) (w:World):(Instr.checkKey b 10000 kt y).run P w = .ok () w:=by
 rcases zcm hk with h | ⟨cs, rfl, h1, h2, hsu⟩
 ·exact MapKept.run_checkKey KI.und (zgu h hv) b 9999
 ·obtain ⟨xs, rfl, hx⟩:=hv
  exact (KI.key h1 hsu).2 b ι ok cs xs w h2 hx
theorem key_stays {ok:Nat->Prop} {kt:TypeId} {ki:TI} {k:V} {y:Value} (hk:zcx ki k = true) (hv:VR ι ok k y) (w:World):(Instr.keyThatStays y y).run P w = .ok y w:=by
 rcases zcm hk with h | ⟨cs, rfl, h1, h2, hsu⟩
 ·exact MapKept.run_keyThatStays (zgu h hv)
 ·obtain ⟨xs, rfl, hx⟩:=hv
  have e:Instr.sameBits 10000 (.agg xs) (.agg xs) = true:=by
   show (xs.size == xs.size && (xs.toList.zip xs.toList).all fun (x, y)=>Instr.sameBits 9999 x y) = true
   rw [zld 9999 h2 hx]
   simp
  simp [Instr.keyThatStays, e]
theorem zln {ok:Nat->Prop} {kt:TypeId} {ki:TI} {cs:List V} {xs:Array Value} (KI:TIOk P kt ki) (h1:ki.plain = true) (h2:jv ki.sh cs = true) (hx:VRL ι ok cs xs.toList) (w:World):∀ (es:List (V × V)) (ces:List MapEntry) (i:Nat),
  VRL ι ok (es.map (·.1)) (ces.map (·.key))->VRL ι ok (es.map (·.2)) (ces.map (·.val))->∀ r, zee (.agg cs) es = some r ->
   (r = none ∧ (Instr.findAsking kt (.agg xs) ces i).run P w = .ok none w) ∨ ∃ (v:V) (j:Nat) (c:MapEntry), r = some v ∧ (Instr.findAsking kt (.agg xs) ces i).run P w = .ok (some (j, c.val)) w ∧ VR ι ok v c.val
 | [], [], i, _, _, r, hr=>by cases hr; exact .inl ⟨rfl, rfl⟩
 | e :: es, c :: ces, i, g1, g2, r, hr=>by
  simp only [zee] at hr
  cases hq:keq (.agg cs) e.1 with
  | none=>rw [hq] at hr; cases hr
  | some b=>
   obtain ⟨us, hus⟩:∃ us, e.1 = .agg us:=by
    cases he:e.1 with
    | agg us=>exact ⟨us, rfl⟩
    | _=>rw [he] at hq; cases hq
   have g1k:VR ι ok e.1 c.key:=g1.1
   rw [hus] at hq g1k
   obtain ⟨ys, hys, hy⟩:=g1k
   have hq:eqB cs us = some b:=hq
   have run:=(KI.plain h1).2 xs ys w b ι ok cs us h2 hx hy hq
   rw [hus] at hr
   rw [show keq (.agg cs) (.agg us) = some b from hq] at hr
   cases b with
   | true=>cases hr; exact .inr ⟨e.2, i, c, rfl, by simp [Instr.findAsking, hys, run], g2.1⟩
   | false=>
    rcases zln KI h1 h2 hx w es ces (i + 1) g1.2 g2.2 r hr with ⟨k1, k2⟩ | ⟨v, j, c', k1, k2, k3⟩
    ·exact .inl ⟨k1, by simp [Instr.findAsking, hys, run, k2]⟩
    ·exact .inr ⟨v, j, c', k1, by simp [Instr.findAsking, hys, run, k2], k3⟩
 | [], _ :: _, _, h1, _, _, _=>h1.elim
 | _ :: _, [], _, h1, _, _, _=>h1.elim
theorem ask_put {ok:Nat->Prop} {kt:TypeId} {ki:TI} {cs:List V} {v:V} {xs:Array Value} (KI:TIOk P kt ki) (h1:ki.plain = true) (h2:jv ki.sh cs = true) (hx:VRL ι ok cs xs.toList) (w:World):∀ (es:List (V × V)) (ces:List MapEntry) (i:Nat),
  VRL ι ok (es.map (·.1)) (ces.map (·.key))->∀ r, putK (.agg cs) v es = some r ->
   (r = es ++ [(.agg cs, v)] ∧ (Instr.findAsking kt (.agg xs) ces i).run P w = .ok none w) ∨ ∃ (j:Nat) (c:MapEntry), r = es.set j (.agg cs, v) ∧ (Instr.findAsking kt (.agg xs) ces i).run P w = .ok (some (i + j, c.val)) w ∧ ces[j]? = some c ∧ c.key = .agg xs
 | [], [], i, _, r, hr=>by cases hr; exact .inl ⟨rfl, rfl⟩
 | e :: es, c :: ces, i, g1, r, hr=>by
  simp only [putK] at hr
  cases hq:keq (.agg cs) e.1 with
  | none=>rw [hq] at hr; cases hr
  | some b=>
   obtain ⟨us, hus⟩:∃ us, e.1 = .agg us:=by
    cases he:e.1 with
    | agg us=>exact ⟨us, rfl⟩
    | _=>rw [he] at hq; cases hq
   have g1k:VR ι ok e.1 c.key:=g1.1
   rw [hus] at hq g1k
   obtain ⟨ys, hys, hy⟩:=g1k
   have hq':eqB cs us = some b:=hq
   have run:=(KI.plain h1).2 xs ys w b ι ok cs us h2 hx hy hq'
   rw [hus] at hr
   rw [show keq (.agg cs) (.agg us) = some b from hq'] at hr
   cases b with
   | true=>
    cases hr
    have hxy:ys = xs:=Array.toList_inj.1 (eqB_eq hx hy hq')
    exact .inr ⟨0, c, rfl, by simp [Instr.findAsking, hys, run], rfl, by rw [hys, hxy]⟩
   | false=>
    cases hp:putK (.agg cs) v es with
    | none=>rw [hp] at hr; cases hr
    | some r'=>
     rw [hp] at hr
     cases hr
     rcases ask_put KI h1 h2 hx w es ces (i + 1) g1.2 r' hp with ⟨k1, k2⟩ | ⟨j, c', k1, k2, k3, k4⟩
     ·exact .inl ⟨by rw [k1]; rfl, by simp [Instr.findAsking, hys, run, k2]⟩
     ·exact .inr ⟨j + 1, c', by rw [k1]; rfl, by simp [Instr.findAsking, hys, run, k2]; omega, by simpa using k3, k4⟩
 | [], _ :: _, _, h1, _, _=>h1.elim
 | _ :: _, [], _, h1, _, _=>h1.elim
theorem zdh {kt:TypeId} {fs:Array Field} {xs:Array Value} {ces:List MapEntry} {a:Option (Nat × Value)} (hu:P.underlying kt = some (.struct fs)) (h:(Instr.findAsking kt (.agg xs) ces).run P w = .ok a w):(Instr.findKey kt (.agg xs) ces).run P w = .ok a w:=by
 cases ces with
 | nil=>
  have:a = none:=by
   have h:Result.ok none w = Result.ok a w:=h
   cases h; rfl
  subst this
  simp [Instr.findKey, run_underlying hu, Result.andThen, Instr.findNow]
 | cons c ces=>simp [Instr.findKey, run_underlying hu, Result.andThen, Instr.findNow, Instr.sameNow, h]
theorem find_ok {ok:Nat->Prop} {kt:TypeId} {ki:TI} {k:V} {y:Value} (KI:TIOk P kt ki) (hk:zcx ki k = true) (hv:VR ι ok k y) {es:List (V × V)} {ces:List MapEntry}
  (g1:VRL ι ok (es.map (·.1)) (ces.map (·.key))) (g2:VRL ι ok (es.map (·.2)) (ces.map (·.val))) {r:Option V} (hr:zee k es = some r) :
   (r = none ∧ (Instr.findKey kt y ces).run P w = .ok none w) ∨ ∃ (v:V) (j:Nat) (c:MapEntry), r = some v ∧ (Instr.findKey kt y ces).run P w = .ok (some (j, c.val)) w ∧ VR ι ok v c.val:=by
 rcases zcm hk with h | ⟨cs, rfl, h1, h2, hsu⟩
 ·rcases zll h hv es ces 0 g1 g2 r hr with ⟨k1, k2⟩ | ⟨v, j, c, k1, k2, k3⟩
  ·exact .inl ⟨k1, MapKept.run_findKey KI.und k2⟩
  ·exact .inr ⟨v, j, c, k1, MapKept.run_findKey KI.und k2, k3⟩
 ·obtain ⟨xs, rfl, hx⟩:=hv
  obtain ⟨fs, hu⟩:=(KI.key h1 hsu).1
  rcases zln KI h1 h2 hx w es ces 0 g1 g2 r hr with ⟨k1, k2⟩ | ⟨v, j, c, k1, k2, k3⟩
  ·exact .inl ⟨k1, zdh hu k2⟩
  ·exact .inr ⟨v, j, c, k1, zdh hu k2, k3⟩
theorem put_ok {ok:Nat->Prop} {kt:TypeId} {ki:TI} {k v:V} {y:Value} (KI:TIOk P kt ki) (hk:zcx ki k = true) (hv:VR ι ok k y) {es:List (V × V)} {ces:List MapEntry}
  (g1:VRL ι ok (es.map (·.1)) (ces.map (·.key))) {r:List (V × V)} (hr:putK k v es = some r) :
   (r = es ++ [(k, v)] ∧ (Instr.findKey kt y ces).run P w = .ok none w) ∨ ∃ (j:Nat) (c:MapEntry), r = es.set j (k, v) ∧ (Instr.findKey kt y ces).run P w = .ok (some (0 + j, c.val)) w ∧ ces[j]? = some c ∧ c.key = y:=by
 rcases zcm hk with h | ⟨cs, rfl, h1, h2, hsu⟩
 ·rcases putK_ok h hv es ces 0 g1 r hr with ⟨k1, k2⟩ | ⟨j, c, k1, k2, k3⟩
  ·exact .inl ⟨k1, MapKept.run_findKey KI.und k2⟩
  ·exact .inr ⟨j, c, k1, MapKept.run_findKey KI.und k2, k3⟩
 ·obtain ⟨xs, rfl, hx⟩:=hv
  obtain ⟨fs, hu⟩:=(KI.key h1 hsu).1
  rcases ask_put KI h1 h2 hx w es ces 0 g1 r hr with ⟨k1, k2⟩ | ⟨j, c, k1, k2, k3⟩
  ·exact .inl ⟨k1, zdh hu k2⟩
  ·exact .inr ⟨j, c, k1, zdh hu k2, k3⟩
theorem zic:∀ {ss:List Sh} {vs:List V} {K:List V->M α}, asAll ss vs K h = some out->K vs h = some out
 | [], [], _, e=>e
 | s :: ss, v :: vs, K, e=>by
  simp only [asAll] at e
  exact zic (K:=fun vs=>K (v :: vs)) (zch e)
 | [], _ :: _, _, e=>by cases e
 | _ :: _, [], _, e=>by cases e
theorem zero_vr {ok:Nat->Prop} {i:TI} {z:Value} {v:V} (hz:VRL ι ok i.zero z.cells.toList) (h1:i.agg = true->∃ cs, z = .agg cs) (h2:i.agg = false->z.cells = #[z])
  (hv:if i.agg = true then v = .agg i.zero else i.zero = [v]):VR ι ok v z:=by
 cases ha:i.agg with
 | true=>
  rw [ha] at hv
  obtain ⟨cs, rfl⟩:=h1 ha
  simp only [if_true] at hv
  subst hv
  exact ⟨cs, rfl, hz⟩
 | false=>
  rw [ha] at hv
  simp only [Bool.false_eq_true, if_false] at hv
  rw [hv, h2 ha] at hz
  exact hz.1
theorem zdq {r:Option Nat} {K:List (V × V)->M α} (e:zha r K h = some out):(r = none ∧ K [] h = some out) ∨ ∃ i es, r = some i ∧ h.get i = some (.map es) ∧ K es h = some out:=by
 unfold zha at e
 cases r with
 | none=>exact .inl ⟨rfl, e⟩
 | some i=>
  dsimp only at e
  split at e
  ·exact .inr ⟨i, _, rfl, by assumption, e⟩
  ·cases e
theorem zgt {t kt el:TypeId} {x k:Value} {ok:Bool} {ces:Array MapEntry} (hd:(x = .map none ∧ ces = #[]) ∨ ∃ r clock, x = .map (some r) ∧ w.heap[r]? = some (.map ces clock))
  (hu:P.underlying t = some (.map kt el)) (hck:(Instr.checkKey ces.isEmpty 10000 kt k).run P w = .ok () w) {fr:Option (Nat × Value)} (hf:(Instr.findKey kt k ces.toList).run P w = .ok fr w)
  {y:Value} {b:Bool} (hy:match fr with | some (_, v)=>y = v ∧ b = true | none=>(zeroValue el).run P w = .ok y w ∧ b = false) :
  (Instr.lookup t x k ok).run P w = .ok (if ok then .tuple #[y, .bool b] else y) w:=by
 have hf1:∀ (es:Array MapEntry), es = ces->(Instr.findKey kt k es.toList).run P w = .ok fr w:=fun es h=>h ▸ hf
 rcases hd with ⟨rfl, rfl⟩ | ⟨r, clock, rfl, hh⟩
 ·have hf2:=hf1 #[] rfl
  simp only [Instr.lookup, Sem.run_bind, run_underlying hu, Result.andThen_ok, Sem.run_pure, hck, hf2]
  cases fr with
  | none=>obtain ⟨h1, rfl⟩:=hy; simp [h1]
  | some v=>obtain ⟨i, v⟩:=v; obtain ⟨rfl, rfl⟩:=hy; simp
 ·simp only [Instr.lookup, Sem.run_bind, run_underlying hu, Result.andThen_ok, Sem.run_pure, MapKept.run_getObj_map hh, hck, hf]
  cases fr with
  | none=>obtain ⟨h1, rfl⟩:=hy; simp [h1]
  | some v=>obtain ⟨i, v⟩:=v; obtain ⟨rfl, rfl⟩:=hy; simp
theorem op_lookup (hT:TabOk P T) (R:HR T base w0 X ι h w) (hρ:∀ x, VR ι (okOf h X) (ev T ρ x) (ρ' x)) {t:TypeId} {x k:Operand} {ok:Bool} (ho:o.op = .lookup t x k ok)
  (e:zi T call ρ o K E h = some out):zr P T base w0 X call ι h w o ρ' K E out:=by
 simp only [zi, ho] at e
 cases hi:T.ti t with
 | none=>rw [hi] at e; cases e
 | some i=>
 rw [hi] at e
 have I:=hT.ti t _ hi
 obtain ⟨und, a1, a2, z, a4, a5, a6⟩:=i
 cases und with
 | map kt el=>
  dsimp only at e
  cases hki:T.ti kt with
  | none=>rw [hki] at e; cases e
  | some ki=>
  cases hei:T.ti el with
  | none=>rw [hki, hei] at e; cases e
  | some ei=>
  rw [hki, hei] at e
  dsimp only at e
  have KI:=hT.ti _ _ hki
  have EI:=hT.ti _ _ hei
  obtain ⟨r, hr, e⟩:=zcd e
  obtain ⟨hko, e⟩:=zg e
  have hx:=hρ x
  rw [hr] at hx
  have hkv:=hρ k
  have run:∀ {v:V} {y:Value} {b:Bool}, (Instr.lookup t (ρ' x) (ρ' k) ok).run P w = .ok (if ok then .tuple #[y, .bool b] else y) w->VR ι (okOf h X) v y ->
    (cond ok (K (.tuple [v, .bool b])) (K v)) h = some out->zr P T base w0 X call ι h w o ρ' K E out:=by
   intro v y b hr hv e
   refine zr.pure (v:=if ok then .tuple [v, .bool b] else v) (x:=if ok then .tuple #[y, .bool b] else y) R ?_ (by simp [execOp, ho, hr]) ?_
   ·cases ok
    ·exact e
    ·exact e
   ·cases ok
    ·exact hv
    ·exact ⟨_, rfl, hv, rfl, trivial⟩
  -- the entries
  have ent:∃ (es:List (V × V)) (ces:Array MapEntry), VRL ι (okOf h X) (es.map (·.1)) (ces.toList.map (·.key)) ∧ VRL ι (okOf h X) (es.map (·.2)) (ces.toList.map (·.val)) ∧
    ((ρ' x = .map none ∧ ces = #[]) ∨ ∃ r clock, ρ' x = .map (some r) ∧ w.heap[r]? = some (.map ces clock)) ∧
    (match zee (ev T ρ k) es with
     | some (some v)=>cond ei.agg (asAgg v fun cs=>asAll ei.sh cs fun cs=>cond ok (K (.tuple [.agg cs, .bool true])) (K (.agg cs)))
      (match ei.sh with | [s]=>asSh s v fun v=>cond ok (K (.tuple [v, .bool true])) (K v) | _=>fail)
     | some none=>mk ei.agg ei.zero fun v=>cond ok (K (.tuple [v, .bool false])) (K v)
     | none=>fail) h = some out:=by
   unfold lookM at e
   rcases zdq e with ⟨rfl, e⟩ | ⟨i, es, rfl, hg, e⟩
   ·exact ⟨[], #[], trivial, trivial, .inl ⟨hx, rfl⟩, e⟩
   ·obtain ⟨hok, hx⟩:=hx
    obtain ⟨ces, clock, hh, _, g1, g2, _⟩:=R.blk i _ hok.2 hg
    exact ⟨es, ces, g1, g2, .inr ⟨_, clock, hx, hh⟩, e⟩
  obtain ⟨es, ces, g1, g2, hent, e⟩:=ent
  cases hf:zee (ev T ρ k) es with
  | none=>rw [hf] at e; cases e
  | some fr=>
   rw [hf] at e
   have hck:=zjc KI hko hkv ces.isEmpty w
   rcases find_ok (w:=w) KI hko hkv g1 g2 hf with ⟨rfl, hn⟩ | ⟨v, j, c, rfl, hn, hv⟩
   ·dsimp only at e
    obtain ⟨v, hv, e⟩:=zfc e
    obtain ⟨z, hz, hz1, hz2, hz3⟩:=EI.run_zero (w:=w)
    refine run (y:=z) (b:=false) ?_ (zero_vr (hz1 _ _) hz2 hz3 hv) e
    exact zgt hent I.und hck hn ⟨hz, rfl⟩
   ·dsimp only at e
    have run':=run (v:=v) (y:=c.val) (b:=true) (by
     exact zgt hent I.und hck hn ⟨rfl, rfl⟩) hv
    cases hag:ei.agg with
    | true=>
     rw [hag] at e
     simp only [cond_true] at e
     obtain ⟨cs, rfl, e⟩:=jf e
     exact run' (zic e)
    | false=>
     rw [hag] at e
     simp only [cond_false] at e
     generalize ei.sh = sh at e
     match sh with
     | []=>cases e
     | [s]=>exact run' (zch e)
     | _ :: _ :: _=>cases e
 | _=>cases e
theorem VRL.set {ok:Nat->Prop}:∀ {vs:List V} {xs:List Value} (j:Nat) {v:V} {x:Value}, VRL ι ok vs xs->VR ι ok v x->VRL ι ok (vs.set j v) (xs.set j x)
 | [], [], _, _, _, _, _=>trivial
 | _ :: _, _ :: _, 0, _, _, h, g=>⟨g, h.2⟩
 | _ :: _, _ :: _, j + 1, _, _, h, g=>⟨h.1, VRL.set j h.2 g⟩
 | [], _ :: _, _, _, _, h, _=>h.elim
 | _ :: _, [], _, _, _, h, _=>h.elim
theorem zkx (es:Array MapEntry) (j:Nat) (k v:Value):((es.modify j fun e=>{ e with key:=k, val:=v }).toList.map (·.val)) = (es.toList.map (·.val)).set j v:=by
 apply List.ext_getElem?
 intro i
 simp only [List.getElem?_map, Array.getElem?_toList, Array.getElem?_modify, List.getElem?_set, List.length_map, Array.length_toList]
 by_cases h:j = i
 ·subst h
  cases he:es[j]? with
  | none=>
   have:¬ j < es.size:=fun h=>by rw [Array.getElem?_eq_getElem h] at he; cases he
   simp [this]
  | some c=>
   have:j < es.size:=by
    rcases Nat.lt_or_ge j es.size with h | h
    ·exact h
    ·rw [Array.getElem?_eq_none h] at he; cases he
   simp [this]
 ·simp [h]
theorem zcu.push {ces:Array MapEntry} {clock:Nat} (s:zcu ces clock) (k v:Value):zcu (ces.push { key:=k, val:=v, born:=clock }) (clock + 1):=by
 obtain ⟨h1, h2⟩:=s
 refine ⟨by simp [h1], fun i e he=>?_⟩
 rw [Array.getElem?_push] at he
 split at he
 ·cases he; rename_i h; rw [h]; exact h1
 ·exact h2 i e he
theorem zcu.modify {ces:Array MapEntry} {clock:Nat} (s:zcu ces clock) (j:Nat) (k v:Value):zcu (ces.modify j fun e=>{ e with key:=k, val:=v }) clock:=by
 obtain ⟨h1, h2⟩:=s
 refine ⟨by simp [h1], fun i e he=>?_⟩
 rw [Array.getElem?_modify] at he
 split at he
 ·cases hc:ces[i]? with
  | none=>rw [hc] at he; cases he
  | some c=>rw [hc] at he; cases he; exact h2 i c hc
 ·exact h2 i e he
theorem znb {r:Option Nat} {k v:V} {K:M α} (e:setMap r k v K h = some out):∃ i es es', r = some i ∧ h.get i = some (.map es) ∧ putK k v es = some es' ∧ K (h.put i (some (.map es'))) = some out:=by
 unfold setMap at e
 cases r with
 | none=>cases e
 | some i=>
  dsimp only at e
  split at e
  ·rename_i es hg
   cases hp:putK k v es with
   | none=>rw [hp] at e; cases e
   | some es'=>rw [hp] at e; exact ⟨i, es, es', rfl, hg, hp, e⟩
  ·cases e
theorem zjl (hT:TabOk P T) (R:HR T base w0 X ι h w) (hρ:∀ x, VR ι (okOf h X) (ev T ρ x) (ρ' x)) {t:TypeId} {m k x:Operand} (ho:o.op = .mapUpdate t m k x)
  (e:zi T call ρ o K E h = some out):zr P T base w0 X call ι h w o ρ' K E out:=by
 simp only [zi, ho] at e
 cases hi:T.ti t with
 | none=>rw [hi] at e; cases e
 | some i=>
 rw [hi] at e
 have I:=hT.ti t _ hi
 obtain ⟨und, a1, a2, z, a4, a5, a6⟩:=i
 cases und with
 | map kt el=>
  dsimp only at e
  cases hki:T.ti kt with
  | none=>rw [hki] at e; cases e
  | some ki=>
  rw [hki] at e
  dsimp only at e
  have KI:=hT.ti _ _ hki
  obtain ⟨r, hr, e⟩:=zcd e
  obtain ⟨hko, e⟩:=zg e
  obtain ⟨i, es, es', rfl, hg, hp, e⟩:=znb e
  have hx:=hρ m
  rw [hr] at hx
  obtain ⟨hok, hx⟩:=hx
  have hkv:=hρ k
  obtain ⟨ces, clock, hh, _, g1, g2, g3⟩:=R.blk i _ hok.2 hg
  have hck:=zjc KI hko hkv false w
  have hst:=key_stays (P:=P) (kt:=kt) hko hkv w
  have hu:=run_underlying I.und w
  rcases put_ok (w:=w) KI hko hkv g1 hp with ⟨rfl, hn⟩ | ⟨j, c, rfl, hn, hj, hc⟩
  ·obtain ⟨R', W'⟩:=R.setMap (es':=es ++ [(ev T ρ k, ev T ρ x)]) (ces:=ces.push { key:=ρ' k, val:=ρ' x, born:=clock }) (clock:=clock + 1) hok.2 hg (g3.push _ _)
    (by rw [Array.toList_push, List.map_append, List.map_append]; exact g1.append ⟨hkv, trivial⟩)
    (by rw [Array.toList_push, List.map_append, List.map_append]; exact g2.append ⟨hρ x, trivial⟩)
   refine .inl ⟨.undef, _, ι, undef, _, e, .inr ⟨rfl, ?_⟩, R', W', trivial⟩
   simp [execOp, ho, hx, Instr.mapUpdate, hu, MapKept.run_getObj_map hh, hck, hn, MapKept.run_setObj_map _ hh]
  ·have hj':ces[j]? = some c:=by simpa using hj
   obtain ⟨R', W'⟩:=R.setMap (es':=es.set j (ev T ρ k, ev T ρ x)) (ces:=ces.modify j fun e=>{ e with key:=ρ' k, val:=ρ' x }) (clock:=clock) hok.2 hg (g3.modify _ _ _)
    (by
     rw [MapKept.modify_keys j _ (fun e he=>by rw [hj'] at he; cases he; exact hc.symm), List.map_set]
     have:=g1.set j hkv
     rwa [show ((ces.toList.map (·.key)).set j (ρ' k)) = ces.toList.map (·.key) from by
      apply List.ext_getElem?
      intro l
      rw [List.getElem?_set]
      by_cases hl:j = l
      ·subst hl
       have hlt:j < (ces.toList.map (·.key)).length:=by
        rcases Nat.lt_or_ge j ces.size with h | h
        ·simpa using h
        ·rw [Array.getElem?_eq_none h] at hj'; cases hj'
       simp [hj', hc]
       simpa using hlt
      ·simp [hl]] at this)
    (by rw [zkx, List.map_set]; exact g2.set j (hρ x))
   refine .inl ⟨.undef, _, ι, undef, _, e, .inr ⟨rfl, ?_⟩, R', W', trivial⟩
   simp [execOp, ho, hx, Instr.mapUpdate, hu, MapKept.run_getObj_map hh, hck, hn, MapKept.run_setObj_map _ hh, hj', hc, hst]
 | _=>cases e
end ops
end Go.Ab
