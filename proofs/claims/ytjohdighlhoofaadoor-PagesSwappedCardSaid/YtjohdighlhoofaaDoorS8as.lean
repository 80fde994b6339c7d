import Derived.Test.YtjohdighlhoofaaDoorProg
import Derived.WalkKit
import Derived.LaidEql
import Derived.Stop.Asserts
import Derived.RowKitTokens
set_option linter.unusedVariables false
set_option linter.unusedSimpArgs false
namespace Go.Ab.S8
open Go Go.Proofs Go.RowKit Go.Extern.Stop Go.Stop Go.Extern
theorem as_nil (t:Value) (w:World) :
  Calls Tryd.prog 37 #[.nilIface, t] w fun e w'=>e = .returned (.bool false) ∧ w' = w:=by
 go_enter Tryd.func37, Tryd.ntmps37
 go_wp2
 go_ret
 exact ⟨rfl, rfl⟩
theorem zge (t:Addr) (w:World):(ReflectliteValue.unpack (.iface 71 (.pointer (some t)))).run Tryd.prog w
  = .ok (.agg #[.pointer (some ⟨5, 71, none⟩), .pointer (some ⟨w.heap.size, 0, none⟩), .int .u64 150]) (w.alloc (.cells #[.pointer (some t)] 71)):=by kernel_rfl
theorem zju (a:Addr) (w:World):(ReflectliteValue.methodAny (ReflectliteValue.valueError "reflectlite.Value.Type" 0) (fun t _ _ _=>ReflectliteType.toType t) #[.agg #[.pointer (some ⟨5, 71, none⟩), .pointer (some a), .int .u64 150]]).run Tryd.prog w
  = .ok (.iface 100 (.agg #[.pointer (some ⟨5, 71, none⟩)])) w:=by kernel_rfl
theorem zfo (h:Value) (w:World):(Go.method 258 100 (.agg #[h]) "Kind").run Tryd.prog w = .ok (90, h) w:=by kernel_rfl
theorem zjx (w:World):((ReflectliteType.abiMethod fun t=>(fun a:Nat=>Value.int IntKind.u8 (a:Int)) <$> Rtype.kind t) #[.pointer (some ⟨5, 71, none⟩)]).run Tryd.prog w = .ok (.int .u8 22) w:=by kernel_rfl
theorem zjw (w:World):((ReflectliteType.abiMethod fun t=>(fun a:Nat=>Value.int IntKind.u8 (a:Int)) <$> Rtype.kind t) #[.pointer (some ⟨5, 56, none⟩)]).run Tryd.prog w = .ok (.int .u8 22) w:=by kernel_rfl
theorem rlm (z:Sem Value) (f:TypeId->Addr->Nat->Nat->Sem Value) (v:Value) :
  ReflectliteValue.method z f #[v] = (do match ← ReflectliteValue.parts v with | none=>z | some (t, a, fl)=>f t a fl (fl % 32)):=rfl
theorem zdx (a:Addr) (w:World):(ReflectliteValue.parts (.agg #[.pointer (some ⟨5, 71, none⟩), .pointer (some a), .int .u64 150])).run Tryd.prog w = .ok (some (71, a, 150)) w:=by kernel_rfl
theorem zif (a p:Addr) (W:World) (ha:W.cell? a = some (.pointer (some p))) :
  (ReflectliteValue.method (ReflectliteValue.valueError "reflectlite.Value.IsNil" 0) ReflectliteValue.isNil #[.agg #[.pointer (some ⟨5, 71, none⟩), .pointer (some a), .int .u64 150]]).run Tryd.prog W = .ok (.bool false) W:=by
 rw [rlm]
 simp only [Sem.run_bind, zdx, Result.andThen]
 simp [ReflectliteValue.isNil, loadVar, isAgg, underlying, Tryd.underlying71, ha, Result.andThen]
theorem zfb (h:Value) (w:World):(Go.method 258 100 (.agg #[h]) "Elem").run Tryd.prog w = .ok (102, .agg #[h]) w:=by kernel_rfl
theorem zcr (h:Value) (w:World):(Go.method 258 100 (.agg #[h]) "Implements").run Tryd.prog w = .ok (103, .agg #[h]) w:=by kernel_rfl
theorem zcd (h:Value) (w:World):(Go.method 258 100 (.agg #[h]) "AssignableTo").run Tryd.prog w = .ok (100, .agg #[h]) w:=by kernel_rfl
theorem zjy (w:World):(ReflectliteType.method ReflectliteType.elem #[.agg #[.pointer (some ⟨5, 71, none⟩)]]).run Tryd.prog w = .ok (.iface 100 (.agg #[.pointer (some ⟨5, 56, none⟩)])) w:=by kernel_rfl
theorem zeg (w:World):(ReflectliteType.relation "Implements" ReflectliteType.implements_ #[.agg #[.pointer (some ⟨5, 56, none⟩)], .iface 100 (.agg #[.pointer (some ⟨5, 32, none⟩)])]).run Tryd.prog w = .ok (.bool true) w:=by kernel_rfl
theorem zhj (v:Value) (w:World):(ReflectliteType.typeOf #[.iface 56 v]).run Tryd.prog w = .ok (.iface 100 (.agg #[.pointer (some ⟨5, 56, none⟩)])) w:=by kernel_rfl
theorem zeh (w:World):(ReflectliteType.relation "AssignableTo" ReflectliteType.assignableTo #[.agg #[.pointer (some ⟨5, 56, none⟩)], .iface 100 (.agg #[.pointer (some ⟨5, 56, none⟩)])]).run Tryd.prog w = .ok (.bool true) w:=by kernel_rfl
theorem zfx (e:Addr) (w:World):(ReflectliteValue.unpack (.iface 56 (.pointer (some e)))).run Tryd.prog w
  = .ok (.agg #[.pointer (some ⟨5, 56, none⟩), .pointer (some ⟨w.heap.size, 0, none⟩), .int .u64 150]) (w.alloc (.cells #[.pointer (some e)] 56)):=by kernel_rfl
theorem zhi (w:World):(Rtype.elem? 71).run Tryd.prog w = .ok (some 56) w:=by kernel_rfl
theorem zmr (p:Addr) (w:World):(ReflectliteValue.mk 56 p ReflectliteValue.flagAddr).run Tryd.prog w = .ok (.agg #[.pointer (some ⟨5, 56, none⟩), .pointer (some p), .int .u64 406]) w:=by kernel_rfl
theorem zji (a p:Addr) (W:World) (ha:W.cell? a = some (.pointer (some p))) :
  (ReflectliteValue.method (ReflectliteValue.valueError "reflectlite.Value.Elem" 0) ReflectliteValue.elem #[.agg #[.pointer (some ⟨5, 71, none⟩), .pointer (some a), .int .u64 150]]).run Tryd.prog W
   = .ok (.agg #[.pointer (some ⟨5, 56, none⟩), .pointer (some p), .int .u64 406]) W:=by
 rw [rlm]
 simp only [Sem.run_bind, zdx, Result.andThen]
 simp [ReflectliteValue.elem, loadVar, isAgg, underlying, Tryd.underlying71, ha, Result.andThen, zhi, zmr]
theorem rls (v x:Value):ReflectliteValue.set #[v, x] = (do
  let (some (dst, a, fl), some (src, b, _)):=(← ReflectliteValue.parts v, ← ReflectliteValue.parts x)
   | unsupported (.noEntry "extern/(internal/reflectlite.Value).Set.zeroValue")
  if fl / ReflectliteValue.flagAddr % 2 == 0 then unsupported (.noEntry "extern/(internal/reflectlite.Value).Set.unaddressable")
  let val ← loadVar src b
  if ← Rtype.directlyAssignable dst src then storeVar dst a val
  else if ← Rtype.implements dst src then
   if (← Rtype.kind src) == 20 then
    match val with
    | .nilIface=>unsupported (.noEntry "extern/reflectlite: a nil value of one interface type handed on as a value of another")
    | _=>storeVar dst a val
   else storeVar dst a (.iface src val)
  else panicString ("reflectlite.Set: value of type " ++ (← Rtype.spelt src) ++ " is not assignable to type " ++ (← Rtype.spelt dst))
  pure (.tuple #[])):=rfl
theorem zhk (a:Addr) (w:World):(ReflectliteValue.parts (.agg #[.pointer (some ⟨5, 56, none⟩), .pointer (some a), .int .u64 406])).run Tryd.prog w = .ok (some (56, a, 406)) w:=by kernel_rfl
theorem zie (a:Addr) (w:World):(ReflectliteValue.parts (.agg #[.pointer (some ⟨5, 56, none⟩), .pointer (some a), .int .u64 150])).run Tryd.prog w = .ok (some (56, a, 150)) w:=by kernel_rfl
theorem zhl (w:World):(Rtype.directlyAssignable 56 56).run Tryd.prog w = .ok true w:=by kernel_rfl
theorem zlg (ta b e:Addr) (old:Value) (W:World) (hb:W.cell? b = some (.pointer (some e))) (ht:W.cell? ta = some old) (hf:W.frozen? ta = false) :
  (ReflectliteValue.set #[.agg #[.pointer (some ⟨5, 56, none⟩), .pointer (some ta), .int .u64 406], .agg #[.pointer (some ⟨5, 56, none⟩), .pointer (some b), .int .u64 150]]).run Tryd.prog W
   = .ok (.tuple #[]) (W.setCell ta (.pointer (some e))):=by
 rw [rls]
 simp only [Sem.run_bind, zhk, zie, Result.andThen]
 simp [ReflectliteValue.flagAddr, loadVar, isAgg, underlying, Tryd.underlying56, hb, Result.andThen, zhl, storeVar, Value.cells, storeCells, Addr.add]
 rw [run_store Tryd.prog W ta _ _ (by rfl)]
 simp [ht, hf]
set_option maxHeartbeats 4000000 in
theorem as_hit (e t:Addr) (old:Value) (w:World) (hg:w.cell? ⟨0, 0, none⟩ = some (.iface 100 (.agg #[.pointer (some ⟨5, 32, none⟩)]))) (ht0:w.cell? t = some old) (hf0:w.frozen? t = false) :
  Calls Tryd.prog 37 #[.iface 56 (.pointer (some e)), .iface 71 (.pointer (some t))] w fun ev w'=>ev = .returned (.bool true) ∧ w' = ((((w.alloc (.cells #[.pointer (some t)] 71)).alloc (.cells #[.pointer (some ⟨5, 71, none⟩), .pointer (some ⟨w.heap.size, 0, none⟩), .int .u64 150] 81)).alloc (.cells #[.pointer (some ⟨5, 71, none⟩), .pointer (some ⟨w.heap.size, 0, none⟩), .int .u64 150] 81)).alloc (.cells #[.pointer (some e)] 56)).setCell t (.pointer (some e)):=by
 have h6:=@run_callFunc_extern Tryd.prog 46 _ (fun args=>ReflectliteValue.unpack (args.getD 0 (.tuple #[]))) Tryd.func46 (by kernel_rfl) (by kernel_rfl) (by kernel_rfl) (by kernel_rfl)
 have h7:=@run_callFunc_extern Tryd.prog 47 _ (ReflectliteValue.methodAny (ReflectliteValue.valueError "reflectlite.Value.Type" 0) (fun t _ _ _=>ReflectliteType.toType t)) Tryd.func47 (by kernel_rfl) (by kernel_rfl) (by kernel_rfl) (by kernel_rfl)
 have h8:=@run_callFunc_extern Tryd.prog 48 _ (ReflectliteValue.method (ReflectliteValue.valueError "reflectlite.Value.IsNil" 0) ReflectliteValue.isNil) Tryd.func48 (by kernel_rfl) (by kernel_rfl) (by kernel_rfl) (by kernel_rfl)
 have h27:=@run_callFunc_extern Tryd.prog 90 _ (ReflectliteType.abiMethod fun t=>do pure (.int .u8 (← Rtype.kind t))) Tryd.func90 (by kernel_rfl) (by kernel_rfl) (by kernel_rfl) (by kernel_rfl)
 have h37:=@run_callFunc_extern Tryd.prog 102 _ (ReflectliteType.method ReflectliteType.elem) Tryd.func102 (by kernel_rfl) (by kernel_rfl) (by kernel_rfl) (by kernel_rfl)
 have h38:=@run_callFunc_extern Tryd.prog 103 _ (ReflectliteType.relation "Implements" ReflectliteType.implements_) Tryd.func103 (by kernel_rfl) (by kernel_rfl) (by kernel_rfl) (by kernel_rfl)
 have h10:=@run_callFunc_extern Tryd.prog 60 _ ReflectliteType.typeOf Tryd.func60 (by kernel_rfl) (by kernel_rfl) (by kernel_rfl) (by kernel_rfl)
 have h35:=@run_callFunc_extern Tryd.prog 100 _ (ReflectliteType.relation "AssignableTo" ReflectliteType.assignableTo) Tryd.func100 (by kernel_rfl) (by kernel_rfl) (by kernel_rfl) (by kernel_rfl)
 have h11:=@run_callFunc_extern Tryd.prog 61 _ (ReflectliteValue.method (ReflectliteValue.valueError "reflectlite.Value.Elem" 0) ReflectliteValue.elem) Tryd.func61 (by kernel_rfl) (by kernel_rfl) (by kernel_rfl) (by kernel_rfl)
 have h12:=@run_callFunc_extern Tryd.prog 62 _ ReflectliteValue.set Tryd.func62 (by kernel_rfl) (by kernel_rfl) (by kernel_rfl) (by kernel_rfl)
 have tO:=zhj
 have mA:=zcd
 have a25:=zeh
 have v25:=zfx
 have f6:=zge
 have f7:=zju
 have mK:=zfo
 have mE:=zfb
 have mI:=zcr
 have k27:=zjx
 have k25:=zjw
 have e27:=zjy
 have i25:=zeg
 have n8:=zif ⟨w.heap.size, 0, none⟩ t ((w.alloc (.cells #[.pointer (some t)] 71)).alloc (.cells #[.pointer (some ⟨5, 71, none⟩), .pointer (some ⟨w.heap.size, 0, none⟩), .int .u64 150] 81)) (by simp)
 have hlt:0 < w.heap.size:=by
  rcases Nat.eq_zero_or_pos w.heap.size with h0 | h
  ·simp [World.cell?, h0] at hg
  ·exact h
 have hg2:((w.alloc (.cells #[.pointer (some t)] 71)).alloc (.cells #[.pointer (some ⟨5, 71, none⟩), .pointer (some ⟨w.heap.size, 0, none⟩), .int .u64 150] 81)).cell? ⟨0, 0, none⟩ = some (.iface 100 (.agg #[.pointer (some ⟨5, 32, none⟩)])):=by
  rw [World.cell?_alloc_lt _ _ ⟨0, 0, none⟩ (by simp), World.cell?_alloc_lt _ _ ⟨0, 0, none⟩ hlt]; exact hg
 have htl:t.block < w.heap.size:=by
  rcases Nat.lt_or_ge t.block w.heap.size with h | h
  ·exact h
  ·simp [World.cell?, Array.getElem?_eq_none h] at ht0
 have el:=zji ⟨w.heap.size, 0, none⟩ t (((w.alloc (.cells #[.pointer (some t)] 71)).alloc (.cells #[.pointer (some ⟨5, 71, none⟩), .pointer (some ⟨w.heap.size, 0, none⟩), .int .u64 150] 81)).alloc (.cells #[.pointer (some ⟨5, 71, none⟩), .pointer (some ⟨w.heap.size, 0, none⟩), .int .u64 150] 81)) (by rw [World.cell?_alloc_lt _ _ ⟨w.heap.size, 0, none⟩ (by simp; omega)]; simp)
 have st:=zlg t ⟨w.heap.size + 1 + 1 + 1, 0, none⟩ e old ((((w.alloc (.cells #[.pointer (some t)] 71)).alloc (.cells #[.pointer (some ⟨5, 71, none⟩), .pointer (some ⟨w.heap.size, 0, none⟩), .int .u64 150] 81)).alloc (.cells #[.pointer (some ⟨5, 71, none⟩), .pointer (some ⟨w.heap.size, 0, none⟩), .int .u64 150] 81)).alloc (.cells #[.pointer (some e)] 56))
  (by rw [World.cell?_alloc_at _ _ _ _ (by simp)]; rfl)
  (by rw [World.cell?_alloc_lt _ _ t (by simp; omega), World.cell?_alloc_lt _ _ t (by simp; omega), World.cell?_alloc_lt _ _ t (by simp; omega), World.cell?_alloc_lt _ _ t htl]; exact ht0)
  (by rw [World.frozen?_alloc_old _ _ t (by simp; omega), World.frozen?_alloc_old _ _ t (by simp; omega), World.frozen?_alloc_old _ _ t (by simp; omega), World.frozen?_alloc_old _ _ t (Nat.ne_of_lt htl)]; exact hf0)
 go_enter Tryd.func37, Tryd.ntmps37
 go_wp2
 refine wp_loop_rounds 1 ?_
 rw [rounds_succ]
 go_wp2
 go_ret
 exact ⟨rfl, rfl⟩
end Go.Ab.S8
