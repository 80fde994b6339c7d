import Derived.Test.YtdhjpnacjnkbgaaGreatDoorAb25
import Derived.Deep.Strs
import Derived.Test.YtdhjpnacjnkbgaaGreatDoorS9ta
set_option linter.unusedVariables false
set_option linter.unusedSimpArgs false
set_option linter.unusedSectionVars false
namespace Go.Ab.S9
open Go.Deep Go.ChangeShapes Go.WideShapes
section
variable {H':Type} {enc:TypeId × Value->H'} {P:Program} {w:World}
theorem nil_rd (h:H):Rd h Sl.nil 1 []:=⟨rfl, fun a ha=>(by cases ha), fun _=>rfl⟩
theorem zlv {ι:Io} {ok:Nat->Prop} {h:H} {n len cap:Nat} {cs:List V} {p:Pl} {bs:Bls} (s:zbt ι ok h n bs) (e:bs[0]? = some (cs, p)) (hl:cs.length = len) :
  Rd h ⟨some ⟨n, 0⟩, len, cap, none⟩ 1 cs:=by
 obtain ⟨_, _, h3, h4⟩:=s 0 _ e
 refine ⟨by rw [hl, Nat.mul_one], fun a ha=>?_, fun ha=>by cases ha⟩
 cases ha
 refine ⟨?_, h4⟩
 unfold H.row
 rw [show h.get n = _ from h3]
 dsimp only
 rw [Nat.zero_add, Nat.ble_self_eq_true, cond_true, List.drop_zero, List.take_length]
theorem zlx {ι:Io} {ok:Nat->Prop} {h:H} {n len cap:Nat} {cs:List V} {p:Pl} {bs:Bls} (s:zbt ι ok h n bs) (e:bs[0]? = some (cs, p)) {a:Addr} (hv:cap = 0 ∨ a = ⟨p.cb, p.sh, none⟩) (hl:len≤cap) :
  SlR ι ok ⟨some ⟨n, 0⟩, len, cap, none⟩ (.slice (some a) len cap):=by
 obtain ⟨h1, h2, _, _⟩:=s 0 _ e
 refine ⟨h2, a, cap, rfl, ?_, hl, rfl⟩
 rcases hv with h | h
 ·exact .inl h
 ·right
  rw [h]
  unfold Ad.to
  rw [show ι n = p from h1]
  rfl
theorem zez {t e:TypeId} {fuel:Nat} {v:Value} {x:DataW H' × List MemPlace} (ht:P.underlying t = some (.slice e)) (hc:P.cellsOf e = 1) (hby:P.bytesOf e = 8) (he:P.underlying e = some (.int .i64))
  (h00:∃ arr elem fr, w.heap[0]? = some (.cells arr elem fr))
  (h:DataW.trod enc P w 0 (fun _=>true) true fuel t [v] = some x) (hw:(x.1.weights P t).all (·≤reachBytes) = true) :
  ∃ y:List Int × (Nat->Sl) × (List V × Pl), y.1.length≤17592186044416 ∧ ∀ ι ok, BOk w ι ok y.2.2 ∧ ∀ h n bs, zbt ι ok h n bs->bs[0]? = some y.2.2->SlR ι ok (y.2.1 n) v ∧ Rd h (y.2.1 n) 1 (y.1.flatMap cI):=by
 rcases open_in ht hc hby (by decide) h00 h hw with rfl | ⟨p, len, cap, arr, elem, fr, D, ⟨a, rfl, ha⟩, hl, hcap, hb, hsz, hi⟩
 ·obtain ⟨arr, elem, fr, hb⟩:=h00
  refine ⟨⟨[], fun _=>Sl.nil, ([], ⟨0, 0, 0⟩)⟩, by simp, fun ι ok=>⟨⟨arr, elem, fr, hb, by simp, trivial, rfl⟩, fun h n bs _ _=>⟨⟨rfl, rfl⟩, nil_rd h⟩⟩⟩
 have each:∀ i, i < len->∃ z:Int, arr[p.sh + i]? = some (.int .i64 z):=by
  intro i hlt
  obtain ⟨_, cs, q, n, h1, h2, h3⟩:=hi i hlt
  obtain ⟨z, h4, -, -⟩:=DataW.trod_int he h3
  have:=h2 0 (by decide)
  rw [Nat.mul_one, Nat.add_zero, h4] at this
  exact ⟨z, this⟩
 obtain ⟨z, hz⟩:=choose_lt each
 let l:List Int:=(List.range len).map z
 have hll:l.length = len:=by simp [l]
 have hfl:(l.flatMap cI).length = len:=by rw [zbi (size:=1) fun _=>rfl, hll, Nat.mul_one]
 refine ⟨⟨l, fun n=>⟨some ⟨n, 0⟩, len, cap, none⟩, (l.flatMap cI, p)⟩, ?_, fun ι ok=>⟨⟨arr, elem, fr, hb, by show p.sh + (l.flatMap cI).length≤_; rw [hfl]; omega, VRL.of_get ?_ fun i v hv=>?_, ?_⟩, fun h n bs s e=>⟨zlx s e ha hl, zlv s e hfl⟩⟩⟩
 ·rw [hll]; unfold reachBytes at hcap; omega
 ·show (l.flatMap cI).length = ((arr.toList.drop p.sh).take (l.flatMap cI).length).length
  rw [hfl, List.length_take, List.length_drop, Array.length_toList]; omega
 ·have hlt:i < len:=by rw [← hfl]; exact yy hv
  have e:=zce (c:=cI) (size:=1) (fun _=>rfl) l i (z i) 0 (by simp [l, hlt]) (by decide)
  rw [Nat.mul_one, Nat.add_zero] at e
  rw [e] at hv
  cases hv
  refine ⟨.int .i64 (z i), ?_, rfl⟩
  rw [hfl, List.getElem?_take, if_pos hlt, List.getElem?_drop, Array.getElem?_toList]
  exact hz i hlt
 ·rw [List.all_eq_true]
  intro v hv
  obtain ⟨n, _, hv⟩:=List.mem_flatMap.1 hv
  simp only [cI, List.mem_cons, List.not_mem_nil, or_false] at hv
  subst hv
  rfl
theorem zmt {t u e:TypeId} {fuel:Nat} {v:Value} {x:DataW H' × List MemPlace} (ht:P.underlying t = some (.slice u)) (hcu:P.cellsOf u = 1) (hbu:P.bytesOf u = 24)
  (hu:P.underlying u = some (.slice e)) (hc:P.cellsOf e = 1) (hby:P.bytesOf e = 8) (he:P.underlying e = some (.int .i64))
  (h00:∃ arr elem fr, w.heap[0]? = some (.cells arr elem fr))
  (h:DataW.trod enc P w 0 (fun _=>true) true fuel t [v] = some x) (hw:(x.1.weights P t).all (·≤reachBytes) = true) :
  ∃ (ls:List (List Int)) (m:Nat->Sl) (rows:Nat->List Sl) (B:Nat->Bls), ls.length≤5864062014805 ∧ (∀ l ∈ ls, l.length≤17592186044416) ∧
   ∀ ι ok h n, zbt ι ok h n (B n)->(SlR ι ok (m n) v ∧ MvR h (m n) ls (rows n)) ∧ ∀ b ∈ B n, BOk w ι ok b:=by
 rcases open_in ht hcu hbu (by decide) h00 h hw with rfl | ⟨p, len, cap, arr, elem, fr, D, ⟨a, rfl, ha⟩, hl, hcap, hb, hsz, hi⟩
 ·exact ⟨[], fun _=>Sl.nil, fun _=>[], fun _=>[], by simp, fun l h=>(by cases h), fun ι ok h n _=>⟨⟨⟨rfl, rfl⟩, ⟨nil_rd h, rfl, fun i r l h=>(by cases h)⟩⟩, fun b h=>(by cases h)⟩⟩
 have each:∀ i, i < len->∃ y:Value × List Int × (Nat->Sl) × (List V × Pl), arr[p.sh + i]? = some y.1 ∧ y.2.1.length≤17592186044416 ∧
   ∀ ι ok, BOk w ι ok y.2.2.2 ∧ ∀ h n bs, zbt ι ok h n bs->bs[0]? = some y.2.2.2->SlR ι ok (y.2.2.1 n) y.1 ∧ Rd h (y.2.2.1 n) 1 (y.2.1.flatMap cI):=by
  intro i hlt
  obtain ⟨hwi, cs, q, n, h1, h2, h3⟩:=hi i hlt
  match cs, h1 with
  | [c], _=>
   obtain ⟨y, h4, h5⟩:=zez hu hc hby he h00 h3 hwi
   have:=h2 0 (by decide)
   rw [Nat.mul_one, Nat.add_zero] at this
   exact ⟨⟨c, y⟩, this, h4, h5⟩
 haveI:Inhabited (Value × List Int × (Nat->Sl) × (List V × Pl)):=⟨(.nilFunc, [], fun _=>Sl.nil, ([], ⟨0, 0, 0⟩))⟩
 obtain ⟨q, hq⟩:=choose_lt each
 let rows:Nat->List Sl:=fun n=>(List.range len).map fun i=>(q i).2.2.1 (n + 1 + i)
 let ls:List (List Int):=(List.range len).map fun i=>(q i).2.1
 have hlr:∀ n, (rows n).length = len:=fun n=>by simp [rows]
 have hfl:∀ n, ((rows n).flatMap cSl).length = len:=fun n=>by rw [zbi (size:=1) fun _=>rfl, hlr, Nat.mul_one]
 refine ⟨ls, fun n=>⟨some ⟨n, 0⟩, len, cap, none⟩, rows, fun n=>((rows n).flatMap cSl, p) :: (List.range len).map fun i=>(q i).2.2.2, ?_, fun l hl=>?_, fun ι ok h n s=>?_⟩
 ·show ((List.range len).map fun i=>(q i).2.1).length≤_
  rw [List.length_map, List.length_range]; unfold reachBytes at hcap; omega
 ·obtain ⟨i, h1, rfl⟩:=List.mem_map.1 hl
  exact (hq i (List.mem_range.1 h1)).2.1
 have sub:∀ i, i < len->SlR ι ok ((q i).2.2.1 (n + 1 + i)) (q i).1 ∧ Rd h ((q i).2.2.1 (n + 1 + i)) 1 ((q i).2.1.flatMap cI):=by
  intro i hlt
  refine ((hq i hlt).2.2 ι ok).2 h (n + 1 + i) [(q i).2.2.2] (fun j b hj=>?_) rfl
  match j, hj with
  | 0, hj=>
   cases hj
   have:=s (1 + i) (q i).2.2.2 (by rw [Nat.add_comm 1 i, List.getElem?_cons_succ]; simp [hlt])
   rw [← Nat.add_assoc] at this
   exact this
 refine ⟨⟨zlx s rfl ha hl, ⟨zlv s rfl (hfl n), by rw [hlr]; simp [ls], fun i r l hr hl=>?_⟩⟩, fun b hb'=>?_⟩
 ·have hlt:i < len:=by rw [← hlr n]; exact yy hr
  have e1:(rows n)[i]? = some ((q i).2.2.1 (n + 1 + i)):=by simp [rows, hlt]
  have e2:ls[i]? = some (q i).2.1:=by simp [ls, hlt]
  rw [e1] at hr
  rw [e2] at hl
  cases hr; cases hl
  exact (sub i hlt).2
 ·rcases List.mem_cons.1 hb' with rfl | hb'
  ·refine ⟨arr, elem, fr, hb, by show p.sh + ((rows n).flatMap cSl).length≤_; rw [hfl]; omega, VRL.of_get ?_ fun i v hv=>?_, ?_⟩
   ·show ((rows n).flatMap cSl).length = ((arr.toList.drop p.sh).take ((rows n).flatMap cSl).length).length
    rw [hfl, List.length_take, List.length_drop, Array.length_toList]; omega
   ·have hlt:i < len:=by rw [← hfl n]; exact yy hv
    have e:=zce (c:=cSl) (size:=1) (fun _=>rfl) (rows n) i ((q i).2.2.1 (n + 1 + i)) 0 (by simp [rows, hlt]) (by decide)
    rw [Nat.mul_one, Nat.add_zero] at e
    rw [show ((rows n).flatMap cSl, p).1[i]? = _ from e] at hv
    cases hv
    refine ⟨(q i).1, ?_, (sub i hlt).1⟩
    show ((arr.toList.drop p.sh).take ((rows n).flatMap cSl).length)[i]? = _
    rw [hfl, List.getElem?_take, if_pos hlt, List.getElem?_drop, Array.getElem?_toList]
    exact (hq i hlt).1
   ·rw [List.all_eq_true]
    intro v hv
    obtain ⟨n, _, hv⟩:=List.mem_flatMap.1 hv
    simp only [cSl, List.mem_cons, List.not_mem_nil, or_false] at hv
    subst hv
    rfl
  ·obtain ⟨i, h1, rfl⟩:=List.mem_map.1 hb'
   exact ((hq i (List.mem_range.1 h1)).2.2 ι ok).1
theorem open_game {t t0 t1 e:TypeId} {f0 f1 f2:Field} {b0:Nat} {v:Value} {d:DataW H'} {ps:List MemPlace} (hs:P.underlying t = some (.struct #[f0, f1, f2])) (hct:P.cellsOf t = 3)
  (ho:f0.offset = 0 ∧ f1.offset = 1 ∧ f2.offset = 2) (hk:f0.type = t0 ∧ f1.type = t0 ∧ f2.type = t1 ∧ P.cellsOf t0 = 1 ∧ P.cellsOf t1 = 1)
  (h1:P.underlying t1 = some (.slice t0)) (hb0:P.bytesOf t0 = 24) (h0:P.underlying t0 = some (.slice e)) (hc:P.cellsOf e = 1) (hby:P.bytesOf e = 8) (he:P.underlying e = some (.int .i64))
  (h00:∃ arr elem fr, w.heap[0]? = some (.cells arr elem fr))
  (hval:Value.okWide P w .any b0 t v) (h:DataW.Trod enc P w 0 (fun _=>true) true t v d ps) (hw:(d.weights P t).all (·≤reachBytes) = true) :
  ∃ (g:Gm) (o p m:Nat->Sl) (B:Nat->Bls), GN g ∧ ∀ ι ok h n, zbt ι ok h n (B n) ->
   (VR ι ok (.agg [.slice (o n), .slice (p n), .slice (m n)]) v ∧ GmR h (o n) (p n) (m n) g) ∧ ∀ b ∈ B n, BOk w ι ok b:=by
 obtain ⟨cs, rfl, hsz⟩:=okWide_struct hs hval
 obtain ⟨fuel, hf⟩:=h
 obtain ⟨y0, y1, y2, n, hx, hlen, g0, g1, g2⟩:=trod_struct3 hs hf
 obtain ⟨rfl, -⟩:=Prod.mk.inj hx
 obtain ⟨o0, o1, o2⟩:=ho
 obtain ⟨k0, k1, k2, k3, k4⟩:=hk
 rw [hct] at hsz
 obtain ⟨v0, v1, v2, rfl⟩:∃ v0 v1 v2, cs = #[v0, v1, v2]:=by
  obtain ⟨l⟩:=cs
  match l, hsz with
  | [a, b, c], _=>exact ⟨a, b, c, rfl⟩
 simp only [DataW.weights, hs, List.map_cons, List.map_nil, DataW.weightsEach, List.append_nil, List.all_append, Bool.and_eq_true, k0, k1, k2] at hw
 rw [o0, k0, k3] at g0
 rw [o1, k1, k3] at g1
 rw [o2, k2, k4] at g2
 obtain ⟨⟨l0, s0, b0⟩, l0n, q0⟩:=zez h0 hc hby he h00 (show DataW.trod enc P w 0 (fun _=>true) true n t0 [v0] = some y0 from g0) hw.1
 obtain ⟨⟨l1, s1, b1⟩, l1n, q1⟩:=zez h0 hc hby he h00 (show DataW.trod enc P w 0 (fun _=>true) true n t0 [v1] = some y1 from g1) hw.2.1
 obtain ⟨ls, m, rows, B, mn, mln, q2⟩:=zmt h1 k3 hb0 h0 hc hby he h00 (show DataW.trod enc P w 0 (fun _=>true) true n t1 [v2] = some y2 from g2) hw.2.2
 refine ⟨⟨l0, l1, ls⟩, s0, fun n=>s1 (n + 1), fun n=>m (n + 2), fun n=>[b0] ++ ([b1] ++ B (n + 2)), ⟨l0n, l1n, mn, mln⟩, fun ι ok h n s=>?_⟩
 obtain ⟨a0, r0⟩:=s.app
 obtain ⟨a1, a2⟩:=r0.app
 obtain ⟨c0, d0⟩:=(q0 ι ok).2 h n _ a0 rfl
 obtain ⟨c1, d1⟩:=(q1 ι ok).2 h (n + 1) _ a1 rfl
 obtain ⟨⟨c2, d2⟩, e2⟩:=q2 ι ok h (n + 2) a2
 refine ⟨⟨⟨#[v0, v1, v2], rfl, c0, c1, c2, trivial⟩, ⟨d0, d1, _, d2⟩⟩, fun b hb=>?_⟩
 rcases List.mem_append.1 hb with hb | hb
 ·cases List.mem_singleton.1 hb; exact (q0 ι ok).1
 rcases List.mem_append.1 hb with hb | hb
 ·cases List.mem_singleton.1 hb; exact (q1 ι ok).1
 ·exact e2 b hb
end
end Go.Ab.S9
