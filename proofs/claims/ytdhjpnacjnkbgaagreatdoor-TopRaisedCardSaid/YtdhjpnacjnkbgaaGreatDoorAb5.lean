import Derived.Test.YtdhjpnacjnkbgaaGreatDoorAb4
import Derived.Laws.Pointers
import Derived.WalkSpells
set_option linter.unusedVariables false
set_option linter.unusedSimpArgs false
set_option linter.unusedSectionVars false
namespace Go.Ab
section ops
variable {α:Type} {P:Program} {T:Tab} {base:Nat} {w0:World} {X:Nat->Prop} {ι:Io} {h:H} {w:World} {call:Call α} {o:Oper} {ρ:Frame}
 {ρ':Operand->Value} {K E:V->M α} {out:α}
theorem zbz (hT:TabOk P T) {t:TypeId} {n:Nat} (e:isK T t n = true):∃ i, TIOk P t i ∧ undK i.und = n:=by
 unfold isK at e
 cases hi:T.ti t with
 | none=>rw [hi] at e; cases e
 | some i=>rw [hi] at e; exact ⟨i, hT.ti t i hi, Nat.eq_of_beq_eq_true e⟩
theorem undK0 {d:TypeDesc} (h:undK d = 0):∃ e, d = .pointer e:=by
 cases d <;> first | exact ⟨_, rfl⟩ | (simp [undK] at h)
theorem undK1 {d:TypeDesc} (h:undK d = 1):∃ e, d = .slice e:=by
 cases d <;> first | exact ⟨_, rfl⟩ | (simp [undK] at h)
theorem undK2 {d:TypeDesc} (h:undK d = 2):∃ k e, d = .map k e:=by
 cases d <;> first | exact ⟨_, _, rfl⟩ | (simp [undK] at h)
theorem undK3 {d:TypeDesc} (h:undK d = 3):∃ a b c, d = .func a b c:=by
 cases d <;> first | exact ⟨_, _, _, rfl⟩ | (simp [undK] at h)
theorem undK4 {d:TypeDesc} (h:undK d = 4):d = .bool:=by
 cases d <;> first | rfl | (simp [undK] at h)
theorem undK5 {d:TypeDesc} (h:undK d = 5):∃ e, d = .interface e:=by
 cases d <;> first | exact ⟨_, rfl⟩ | (simp [undK] at h)
theorem bytes_beq (a b:ByteArray):(a.toList == b.toList) = decide (a.data.toList = b.data.toList):=by
 rw [ByteArray.toList_eq, ByteArray.toList_eq]
 by_cases h:a.data.toList = b.data.toList
 ·rw [h]; simp
 ·rw [decide_eq_false h]; exact beq_false_of_ne h
theorem zmm (a b:ByteArray):(a ++ b).data.toList = a.data.toList ++ b.data.toList:=by
 rw [← ByteArray.toList_eq, ← ByteArray.toList_eq, ← ByteArray.toList_eq]
 simp [ByteArray.toList_eq, ByteArray.data_append]
theorem strOp_ok {op:BinOp} {a b:ByteArray} (t:TypeId) (e:strOp op a.data.toList b.data.toList K h = some out) :
  ∃ v x, K v h = some out ∧ (Go.binOp op t (.string a) (.string b)).run P w = .ok x w ∧ VR ι (okOf h X) v x:=by
 cases op <;> simp only [strOp] at e
 case add=>
  unfold cat at e
  obtain ⟨h1, e⟩:=zg e
  have h1:=Nat.le_of_ble_eq_true h1
  refine ⟨_, .string (a ++ b), e, ?_, ⟨_, rfl, zmm a b⟩⟩
  have h2:¬ (9223372036854775807:Int) < (a.size:Int) + (b.size:Int):=by
   have:a.data.toList.length = a.size:=Array.length_toList
   have:b.data.toList.length = b.size:=Array.length_toList
   omega
  simp [Go.binOp, Op.stringOp, IntKind.max, IntKind.signed, IntKind.bits, h2]
 case eql=>exact ⟨_, .bool (a.toList == b.toList), e, rfl, congrArg Value.bool (bytes_beq a b)⟩
 case neq=>exact ⟨_, .bool !(a.toList == b.toList), e, rfl, congrArg (fun c=>Value.bool !c) (bytes_beq a b)⟩
 case lss=>exact ⟨_, .bool (Op.bytesLess a.toList b.toList), e, rfl, by rw [ByteArray.toList_eq, ByteArray.toList_eq]; rfl⟩
 case leq=>exact ⟨_, .bool (Op.bytesLess a.toList b.toList || a.toList == b.toList), e, rfl, by rw [bytes_beq, ByteArray.toList_eq, ByteArray.toList_eq]; rfl⟩
 case gtr=>exact ⟨_, .bool !(Op.bytesLess a.toList b.toList || a.toList == b.toList), e, rfl, by rw [bytes_beq, ByteArray.toList_eq, ByteArray.toList_eq]; rfl⟩
 case geq=>exact ⟨_, .bool !(Op.bytesLess a.toList b.toList), e, rfl, by rw [ByteArray.toList_eq, ByteArray.toList_eq]; rfl⟩
 all_goals cases e
theorem yw {t:TypeId} {a b:Value} {c:Bool} (he:∀ d:Nat, (Op.equalIn (d + 1) t a b).run P w = .ok c w):(Op.equal t a b).run P w = .ok c w:=he 9999
theorem eqV_ok (hT:TabOk P T) {t:TypeId} {x y:V} {a b:Value} {F:Bool->M α} (hx:VR ι (okOf h X) x a) (hy:VR ι (okOf h X) y b) (ox oy:Operand) (op:BinOp)
  (e:eqV T t x y F h = some out):∃ c, F c h = some out ∧ (eqGuard op t ox oy a b).run P w = .ok () w ∧ (Op.equal t a b).run P w = .ok c w ∧
   (Go.binOp .eql t a b = do pure (.bool (← Op.equal t a b))) ∧ (Go.binOp .neq t a b = do pure (.bool (!(← Op.equal t a b)))):=by
 unfold eqV at e
 split at e
 ·rename_i p
  obtain ⟨hk, e⟩:=zg e
  obtain ⟨i, I, hu⟩:=zbz hT hk
  obtain ⟨el, hu⟩:=undK0 hu
  have hb:b = .pointer none:=hy
  subst hb
  cases p with
  | none=>
   have ha:a = .pointer none:=hx
   subst ha
   exact ⟨_, e, by simp [eqGuard], yw (fun d=>by simp [Op.equalIn, I.run_und, hu]), rfl, rfl⟩
  | some p=>
   obtain ⟨_, ha⟩:=hx
   subst ha
   exact ⟨_, e, by simp [eqGuard], yw (fun d=>by simp [Op.equalIn, I.run_und, hu]), rfl, rfl⟩
 ·rename_i p
  obtain ⟨hk, e⟩:=zg e
  obtain ⟨i, I, hu⟩:=zbz hT hk
  obtain ⟨el, hu⟩:=undK0 hu
  have ha:a = .pointer none:=hx
  subst ha
  obtain ⟨_, hb⟩:=hy
  subst hb
  exact ⟨_, e, by simp [eqGuard], yw (fun d=>by simp [Op.equalIn, I.run_und, hu]), rfl, rfl⟩
 ·rename_i s n c l
  obtain ⟨hk, e⟩:=zg e
  obtain ⟨i, I, hu⟩:=zbz hT hk
  obtain ⟨el, hu⟩:=undK1 hu
  obtain ⟨_, hb⟩:_ ∧ b = .slice none 0 0:=hy
  subst hb
  unfold VR SlR at hx
  cases hs:s.ad with
  | none=>
   rw [hs] at hx
   obtain ⟨_, ha⟩:=hx
   subst ha
   rw [hs] at e
   exact ⟨_, e, by simp [eqGuard], yw (fun d=>by simp [Op.equalIn, I.run_und, hu]), rfl, rfl⟩
  | some p=>
   rw [hs] at hx
   obtain ⟨_, q, d, ha, _⟩:=hx
   subst ha
   rw [hs] at e
   exact ⟨_, e, by simp [eqGuard], yw (fun d=>by simp [Op.equalIn, I.run_und, hu]), rfl, rfl⟩
 ·rename_i p
  obtain ⟨hk, e⟩:=zg e
  obtain ⟨i, I, hu⟩:=zbz hT hk
  obtain ⟨kk, el, hu⟩:=undK2 hu
  have hb:b = .map none:=hy
  subst hb
  cases p with
  | none=>
   have ha:a = .map none:=hx
   subst ha
   exact ⟨_, e, by simp [eqGuard], yw (fun d=>by simp [Op.equalIn, I.run_und, hu]), rfl, rfl⟩
  | some p=>
   obtain ⟨_, ha⟩:=hx
   subst ha
   exact ⟨_, e, by simp [eqGuard], yw (fun d=>by simp [Op.equalIn, I.run_und, hu]), rfl, rfl⟩
 ·obtain ⟨hk, e⟩:=zg e
  obtain ⟨i, I, hu⟩:=zbz hT hk
  obtain ⟨k1, k2, k3, hu⟩:=undK3 hu
  have ha:a = .nilFunc:=hx
  have hb:b = .nilFunc:=hy
  subst ha; subst hb
  exact ⟨_, e, by simp [eqGuard], yw (fun d=>by simp [Op.equalIn, I.run_und, hu]), rfl, rfl⟩
 ·obtain ⟨hk, e⟩:=zg e
  obtain ⟨i, I, hu⟩:=zbz hT hk
  obtain ⟨k1, k2, k3, hu⟩:=undK3 hu
  obtain ⟨c, d, ha, _⟩:=hx
  have hb:b = .nilFunc:=hy
  subst ha; subst hb
  exact ⟨_, e, by simp [eqGuard], yw (fun d=>by simp [Op.equalIn, I.run_und, hu]), rfl, rfl⟩
 ·rename_i c d
  obtain ⟨hk, e⟩:=zg e
  obtain ⟨i, I, hu⟩:=zbz hT hk
  have hu:=undK4 hu
  have ha:a = .bool c:=hx
  have hb:b = .bool d:=hy
  subst ha; subst hb
  exact ⟨_, e, by simp [eqGuard], yw (fun d=>by simp only [Op.equalIn, Sem.run_bind, I.run_und, hu, Result.andThen_ok]; cases c <;> cases d <;> rfl), rfl, rfl⟩
 ·rename_i xs ys
  obtain ⟨as, ha, hxs⟩:=hx
  obtain ⟨bs, hb, hys⟩:=hy
  subst ha; subst hb
  cases hi:T.ti t with
  | none=>rw [hi] at e; cases e
  | some i=>
   rw [hi] at e
   have I:=hT.ti t i hi
   obtain ⟨hp, e⟩:=zg e
   rw [Bool.and_eq_true] at hp
   obtain ⟨hg, he⟩:=I.plain hp.1
   rw [zhu] at e
   cases hc:eqB xs ys with
   | none=>rw [hc] at e; cases e
   | some c=>
    rw [hc] at e
    exact ⟨c, e, by cases op <;> simp [eqGuard, program, Sem.run, hg], he _ _ _ _ _ _ _ _ hp.2 hxs hys hc, rfl, rfl⟩
 ·cases e
theorem zmp {j k:IntKind} (e:yc j k = true):j = k:=by
 cases j <;> cases k <;> first | rfl | cases e
theorem zff (op:BinOp) (t:TypeId) (ox oy:Operand) (j k:IntKind) (a b:Int):(eqGuard op t ox oy (.int j a) (.int k b)).run P w = .ok () w:=by
 cases op <;> simp [eqGuard]
theorem guard_str (op:BinOp) (t:TypeId) (ox oy:Operand) (a b:ByteArray):(eqGuard op t ox oy (.string a) (.string b)).run P w = .ok () w:=by
 cases op <;> simp [eqGuard]
theorem guard_nil (op:BinOp) (t:TypeId) {ox oy:Operand} (hc:(isC ox || isC oy) = true):(eqGuard op t ox oy .nilIface .nilIface).run P w = .ok () w:=by
 cases ox <;> cases oy <;> cases op <;> first | (simp [isC] at hc; done) | simp [eqGuard]
theorem yu {op:BinOp} {t ty:TypeId} {ox oy:Operand} (ho:o.op = .binOp op t ox oy ty) {x:Value} (h1:(eqGuard op t ox oy (ρ' ox) (ρ' oy)).run P w = .ok () w)
  (h2:(Go.binOp op t (ρ' ox) (ρ' oy)).run P w = .ok x w):(execOp ρ' o).run P w = .ok (.value x) w:=by
 simp [execOp, ho, h1, h2]
theorem op_binOp (hT:TabOk P T) (R:HR T base w0 X ι h w) (hρ:∀ x, VR ι (okOf h X) (ev T ρ x) (ρ' x)) {op:BinOp} {t ty:TypeId} {ox oy:Operand} (ho:o.op = .binOp op t ox oy ty)
  (e:zi T call ρ o K E h = some out):zr P T base w0 X call ι h w o ρ' K E out:=by
 simp only [zi, ho] at e
 have hx:=hρ ox
 have hy:=hρ oy
 have hint:∀ {j k:IntKind} {a b:Int}, (op ≠ .shl ∧ op ≠ .shr)->ev T ρ ox = .int j a->ev T ρ oy = .int k b->need (yc j k) (arith op k a b K) h = some out ->
   zr P T base w0 X call ι h w o ρ' K E out:=by
  intro j k a b hop h1 h2 e
  obtain ⟨hk, e⟩:=zg e
  have hk:=zmp hk
  subst hk
  rw [h1] at hx; rw [h2] at hy
  have hx:ρ' ox = .int j a:=hx
  have hy:ρ' oy = .int j b:=hy
  obtain ⟨v, x, e, hr, hv⟩:=arith_ok (P:=P) (X:=X) (ι:=ι) (w:=w) t hop e
  exact zr.pure R e (yu ho (by rw [hx, hy]; exact zff ..) (by rw [hx, hy]; exact hr)) hv
 have hstr:∀ {a b:List UInt8}, ev T ρ ox = .str a->ev T ρ oy = .str b->strOp op a b K h = some out ->
   zr P T base w0 X call ι h w o ρ' K E out:=by
  intro a b h1 h2 e
  rw [h1] at hx; rw [h2] at hy
  obtain ⟨a', hx, rfl⟩:=hx
  obtain ⟨b', hy, rfl⟩:=hy
  obtain ⟨v, x, e, hr, hv⟩:=strOp_ok (P:=P) (X:=X) (ι:=ι) (w:=w) t e
  exact zr.pure R e (yu ho (by rw [hx, hy]; exact guard_str ..) (by rw [hx, hy]; exact hr)) hv
 have hrest:(op ≠ .shl ∧ op ≠ .shr)->(match ev T ρ ox, ev T ρ oy with
   | .int j a, .int k b=>need (yc j k) (arith op k a b K)
   | .str a, .str b=>strOp op a b K
   | _, _=>fail) h = some out->zr P T base w0 X call ι h w o ρ' K E out:=by
  intro hop e
  generalize h1:ev T ρ ox = u at e
  generalize h2:ev T ρ oy = u' at e
  split at e
  ·exact hint hop h1 h2 e
  ·exact hstr h1 h2 e
  ·cases e
 have hsh:(op = .shl ∨ op = .shr)->(match ev T ρ ox, ev T ρ oy with | .int k a, .int _ b=>shift op k a b K | _, _=>fail) h = some out ->
   zr P T base w0 X call ι h w o ρ' K E out:=by
  intro hop e
  generalize h1:ev T ρ ox = u at e
  generalize h2:ev T ρ oy = u' at e
  split at e
  ·rename_i k a k2 b
   rw [h1] at hx; rw [h2] at hy
   have hx:ρ' ox = .int k a:=hx
   have hy:ρ' oy = .int k2 b:=hy
   unfold shift at e
   obtain ⟨h0, e⟩:=zg e
   have h0:=of_decide_eq_true h0
   have h0':¬ b < 0:=by omega
   rcases hop with hop | hop <;> subst hop
   ·exact zr.pure R e (yu ho (by rw [hx, hy]; exact zff ..) (by rw [hx, hy]; simp [Go.binOp, Op.shift, h0'])) rfl
   ·exact zr.pure R e (yu ho (by rw [hx, hy]; exact zff ..) (by rw [hx, hy]; simp [Go.binOp, Op.shift, h0'])) rfl
  ·cases e
 have heq:(op = .eql ∨ op = .neq)->(match ev T ρ oy with
   | .nilIface=>need (isC ox || isC oy) (need (isK T t 5) (asNil (ev T ρ ox) fun b=>K (.bool (eqOr op b))))
   | _=>(match ev T ρ ox, ev T ρ oy with
    | .int j a, .int k b=>need (yc j k) (arith op k a b K)
    | .str a, .str b=>strOp op a b K
    | _, _=>eqV T t (ev T ρ ox) (ev T ρ oy) fun b=>K (.bool (eqOr op b)))) h = some out ->
   zr P T base w0 X call ι h w o ρ' K E out:=by
  intro hop e
  generalize h1:ev T ρ ox = u at e
  generalize h2:ev T ρ oy = u' at e
  rw [h1] at hx
  rw [h2] at hy
  split at e
  ·have hy:ρ' oy = .nilIface:=hy
   obtain ⟨hc, e⟩:=zg e
   obtain ⟨hk, e⟩:=zg e
   obtain ⟨i, I, hu⟩:=zbz hT hk
   obtain ⟨ms, hu⟩:=undK5 hu
   have main:∀ c:Bool, K (.bool (eqOr op c)) h = some out->(eqGuard op t ox oy (ρ' ox) (ρ' oy)).run P w = .ok () w->(Op.equal t (ρ' ox) (ρ' oy)).run P w = .ok c w ->
     (Go.binOp .eql t (ρ' ox) (ρ' oy) = do pure (.bool (← Op.equal t (ρ' ox) (ρ' oy))))->(Go.binOp .neq t (ρ' ox) (ρ' oy) = do pure (.bool (!(← Op.equal t (ρ' ox) (ρ' oy))))) ->
     zr P T base w0 X call ι h w o ρ' K E out:=by
    intro c e h1 h2 h3 h4
    rcases hop with hop | hop <;> subst hop
    ·exact zr.pure (x:=.bool c) R e (yu ho h1 (by rw [h3]; simp [h2])) rfl
    ·exact zr.pure (x:=.bool !c) R e (yu ho h1 (by rw [h4]; simp [h2])) rfl
   unfold asNil at e
   split at e
   ·have hx:ρ' ox = .nilIface:=hx
    refine main _ e ?_ ?_ (by rw [hx, hy]; rfl) (by rw [hx, hy]; rfl)
    ·rw [hx, hy]; exact guard_nil op t hc
    ·rw [hx, hy]; exact yw (fun d=>by simp [Op.equalIn, I.run_und, hu])
   ·rename_i t' v
    obtain ⟨y, hx, _⟩:=hx
    refine main _ e ?_ ?_ (by rw [hx, hy]; rfl) (by rw [hx, hy]; rfl)
    ·rw [hx, hy]; cases op <;> simp [eqGuard]
    ·rw [hx, hy]; exact yw (fun d=>by simp [Op.equalIn, I.run_und, hu])
   ·cases e
  ·split at e
   ·exact hint (by rcases hop with hop | hop <;> subst hop <;> simp) h1 h2 e
   ·exact hstr h1 h2 e
   ·obtain ⟨c, e, h1, h2, h3, h4⟩:=eqV_ok (P:=P) (w:=w) hT hx hy ox oy op e
    rcases hop with hop | hop <;> subst hop
    ·exact zr.pure (x:=.bool c) R e (yu ho h1 (by rw [h3]; simp [h2])) rfl
    ·exact zr.pure (x:=.bool !c) R e (yu ho h1 (by rw [h4]; simp [h2])) rfl
 unfold Ab.binOp at e
 cases op
 case shl=>exact hsh (.inl rfl) e
 case shr=>exact hsh (.inr rfl) e
 case eql=>exact heq (.inl rfl) e
 case neq=>exact heq (.inr rfl) e
 all_goals exact hrest (by simp) e
end ops
end Go.Ab
