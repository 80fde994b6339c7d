import Derived.Test.YtmanohnlcedeaaaAb21
import Derived.Test.YtmanohnlcedeaaaS7i
import Derived.Test.YtmanohnlcedeaaaS7u
set_option linter.unusedVariables false
set_option linter.unusedSimpArgs false
namespace Go.Ab.S7
open Go.Deep Go.ChangeShapes Go.WideShapes
section
variable {H':Type} {enc:TypeId × Value->H'} {P:Program} {w:World}
theorem open_node {e:TypeId} {f0 f1 f2 f3 f4:Field} {n:Nat} {cs:List Value} {x:DataW H' × List MemPlace} (he:P.underlying e = some (.struct #[f0, f1, f2, f3, f4])) (hc:P.cellsOf e = 5)
  (ho:f0.offset = 0 ∧ f1.offset = 1 ∧ f2.offset = 2 ∧ f3.offset = 3 ∧ f4.offset = 4) (hk:P.cellsOf f0.type = 1 ∧ P.cellsOf f1.type = 1 ∧ P.cellsOf f2.type = 1 ∧ P.cellsOf f3.type = 1 ∧ P.cellsOf f4.type = 1)
  (hu:P.underlying f0.type = some (.int .i64) ∧ P.underlying f1.type = some (.int .i64) ∧ P.underlying f2.type = some (.int .i64) ∧ P.underlying f3.type = some .string ∧ P.underlying f4.type = some (.int .i64))
  (h:DataW.trod enc P w 0 (fun _=>true) true n e cs = some x) (hl:cs.length = 5) (hw:(x.1.weights P e).all (·≤reachBytes) = true) :
  ∃ (y:Nd) (b:ByteArray), cs = [.int .i64 y.kind, .int .i64 y.a, .int .i64 y.b, .string b, .int .i64 y.pos] ∧ b.data.toList = y.name ∧ y.name.length≤reachBytes:=by
 obtain ⟨xs, k, rfl, rfl, _, hxl, hf⟩:=DataW.trod_struct he h
 obtain ⟨o0, o1, o2, o3, o4⟩:=ho
 obtain ⟨k0, k1, k2, k3, k4⟩:=hk
 obtain ⟨u0, u1, u2, u3, u4⟩:=hu
 match xs, hxl, cs, hl with
 | [y0, y1, y2, y3, y4], _, [v0, v1, v2, v3, v4], _=>
  have g0:=hf 0 f0 rfl
  have g1:=hf 1 f1 rfl
  have g2:=hf 2 f2 rfl
  have g3:=hf 3 f3 rfl
  have g4:=hf 4 f4 rfl
  simp only [o0, o1, o2, o3, o4, k0, k1, k2, k3, k4, List.drop_succ_cons, List.drop_zero, List.take_succ_cons, List.take_zero, List.getElem?_cons_zero, List.getElem?_cons_succ] at g0 g1 g2 g3 g4
  obtain ⟨n0, e0, q0, -⟩:=DataW.trod_int u0 g0
  obtain ⟨n1, e1, q1, -⟩:=DataW.trod_int u1 g1
  obtain ⟨n2, e2, q2, -⟩:=DataW.trod_int u2 g2
  obtain ⟨b, e3, q3, -⟩:=DataW.trod_string u3 g3
  obtain ⟨n4, e4, q4, -⟩:=DataW.trod_int u4 g4
  simp only [List.cons.injEq, and_true] at e0 e1 e2 e3 e4
  subst e0 e1 e2 e3 e4 q0 q1 q2 q3 q4
  refine ⟨⟨n0, n1, n2, b.data.toList, n4⟩, b, rfl, rfl, ?_⟩
  simp only [DataW.weights, he, List.map_cons, List.map_nil, DataW.weightsEach, List.nil_append, List.append_nil, List.all_append, List.all_cons, List.all_nil, Bool.and_true, decide_eq_true_eq] at hw
  exact hw
theorem open_nodes {t e:TypeId} {f0 f1 f2 f3 f4:Field} {b0:Nat} {v:Value} {d:DataW H'} {ps:List MemPlace} (ht:P.underlying t = some (.slice e)) (hby:P.bytesOf e = 48)
  (he:P.underlying e = some (.struct #[f0, f1, f2, f3, f4])) (hc:P.cellsOf e = 5)
  (ho:f0.offset = 0 ∧ f1.offset = 1 ∧ f2.offset = 2 ∧ f3.offset = 3 ∧ f4.offset = 4) (hk:P.cellsOf f0.type = 1 ∧ P.cellsOf f1.type = 1 ∧ P.cellsOf f2.type = 1 ∧ P.cellsOf f3.type = 1 ∧ P.cellsOf f4.type = 1)
  (hu:P.underlying f0.type = some (.int .i64) ∧ P.underlying f1.type = some (.int .i64) ∧ P.underlying f2.type = some (.int .i64) ∧ P.underlying f3.type = some .string ∧ P.underlying f4.type = some (.int .i64))
  (hval:Value.okWide P w .any b0 t v) (h:DataW.Trod enc P w 0 (fun _=>true) true t v d ps) (hw:(d.weights P t).all (·≤reachBytes) = true) {T:Tab} (hg:∀ g, T.glob g = none) :
  ∃ (l:List Nd) (s:Sl) (h:H) (ι:Io), HR T w.heap.size w (fun _=>False) ι h w ∧ VR ι (okOf h fun _=>False) (.slice s) v ∧ NdR h s l ∧ NL l ∧ Room l.length:=by
 rcases open_rows ht hc hby (by decide) hval h hw with rfl | ⟨cb, o, len, cap, arr, elem, fr, D, rfl, hlc, hcap, hblk, hoz, hel⟩
 ·exact ⟨[], Sl.nil, h0, ι0, HR.init hg w, ⟨rfl, rfl⟩, ⟨rfl, fun a ha=>(by cases ha), fun _=>rfl⟩, fun i n hi=>(by simp at hi), by unfold Room; simp⟩
 have each:∀ i, i < len->∃ q:Nd × ByteArray, (∀ j, j < 5->arr[o + i * 5 + j]? = [Value.int .i64 q.1.kind, .int .i64 q.1.a, .int .i64 q.1.b, .string q.2, .int .i64 q.1.pos][j]?) ∧ q.2.data.toList = q.1.name ∧ q.1.name.length≤reachBytes:=by
  intro i hi
  obtain ⟨hwi, cs, p, n, hl, hj, htr⟩:=hel i hi
  obtain ⟨y, b, rfl, hb, hlen⟩:=open_node he hc ho hk hu htr hl hwi
  exact ⟨(y, b), hj, hb, hlen⟩
 haveI:Inhabited (Nd × ByteArray):=⟨(⟨0, 0, 0, [], 0⟩, ByteArray.empty)⟩
 obtain ⟨q, hq⟩:=choose_lt each
 let l:List Nd:=(List.range len).map fun i=>(q i).1
 have hl:l.length = len:=by simp [l]
 have hget:∀ i n, l[i]? = some n->i < len ∧ n = (q i).1:=by
  intro i n hi
  have hlt:i < len:=by rw [← hl]; exact yu hi
  refine ⟨hlt, ?_⟩
  have:l[i]? = some (q i).1:=by simp [l, hlt]
  rw [this] at hi
  exact (Option.some.inj hi).symm
 have hfl:(cN l).length = len * 5:=by rw [zbd Nd.len, hl]
 refine ⟨l, ⟨some ⟨0, 0⟩, len, cap, none⟩, h1 (cN l), fun _=>⟨cb, if cap = 0 then 0 else o, 0⟩, ?_, ?_, ⟨hfl, fun a ha=>?_, fun ha=>by cases ha⟩, fun i n hi=>?_, ?_⟩
 ·have hsz:(if cap = 0 then 0 else o) + (cN l).length≤arr.size:=by
   rw [hfl]
   split
   ·omega
   ·rcases Nat.eq_zero_or_pos len with h0 | h0
    ·rcases hoz with h | h
     ·omega
     ·omega
    ·have:=(hq (len - 1) (by omega)).1 4 (by decide)
     simp only [List.getElem?_cons_succ, List.getElem?_cons_zero] at this
     obtain ⟨h, -⟩:=Array.getElem?_eq_some_iff.1 this
     omega
  refine HR.init1 hg w hblk hsz (VRL.of_get (by rw [List.length_take, List.length_drop, Array.length_toList]; exact (Nat.min_eq_left (by show (cN l).length≤arr.size - (if cap = 0 then 0 else o); exact Nat.le_sub_of_add_le (by rw [Nat.add_comm]; exact hsz))).symm) fun i v hv=>?_) ?_
  ·have hi:i < len * 5:=by rw [← hfl]; exact yu hv
   obtain ⟨i', j, hj, rfl⟩:∃ i' j, j < 5 ∧ i = i' * 5 + j:=⟨i / 5, i % 5, Nat.mod_lt _ (by decide), by omega⟩
   have hi':i' < len:=by omega
   have hc0:¬ cap = 0:=by omega
   rw [zcn Nd.len l i' (q i').1 j (by simp [l, hi']) hj] at hv
   obtain ⟨h1, h2, -⟩:=hq i' hi'
   have h3:=h1 j hj
   have hx:((arr.toList.drop (if cap = 0 then 0 else o)).take (cN l).length)[i' * 5 + j]? = arr[o + i' * 5 + j]?:=by
    rw [if_neg hc0, List.getElem?_take, if_pos (by omega), List.getElem?_drop, Array.getElem?_toList, Nat.add_assoc]
   rw [hx, h3]
   match j, hj, hv with
   | 0, _, hv=>exact ⟨_, rfl, by cases hv; rfl⟩
   | 1, _, hv=>exact ⟨_, rfl, by cases hv; rfl⟩
   | 2, _, hv=>exact ⟨_, rfl, by cases hv; rfl⟩
   | 3, _, hv=>exact ⟨_, rfl, by cases hv; exact ⟨_, rfl, h2⟩⟩
   | 4, _, hv=>exact ⟨_, rfl, by cases hv; rfl⟩
  ·rw [List.all_eq_true]
   intro v hv
   obtain ⟨n, _, hv⟩:=List.mem_flatMap.1 hv
   simp only [Nd.cells, List.mem_cons, List.not_mem_nil, or_false] at hv
   rcases hv with rfl | rfl | rfl | rfl | rfl <;> rfl
 ·refine ⟨⟨Nat.one_pos, fun h=>h⟩, ⟨cb, o, none⟩, cap, rfl, ?_, hlc, rfl⟩
  by_cases h0:cap = 0
  ·exact .inl h0
  ·exact .inr (by simp [Ad.to, h0])
 ·cases ha
  exact ⟨by simp only [H.row, h1, Nat.beq]; rw [cond_true]; simp only [Nat.zero_add, Nat.ble_self_eq_true, cond_true, List.drop_zero, List.take_length], Nat.one_pos⟩
 ·obtain ⟨hlt, rfl⟩:=hget i n hi
  have:=(hq i hlt).2.2
  unfold reachBytes at this
  omega
 ·rw [hl]
  unfold reachBytes at hcap
  unfold Room
  omega
end
end Go.Ab.S7
