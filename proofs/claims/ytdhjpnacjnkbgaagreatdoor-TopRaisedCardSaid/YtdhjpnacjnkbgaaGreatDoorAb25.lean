import Derived.Test.YtdhjpnacjnkbgaaGreatDoorAb20
import Derived.Deep.Slices
import Derived.ChangeShapes
set_option linter.unusedVariables false
set_option linter.unusedSimpArgs false
set_option linter.unusedSectionVars false
namespace Go.Ab
open Go.Deep Go.ChangeShapes Go.WideShapes
section
variable {H':Type} {enc:TypeId × Value->H'} {P:Program} {w:World}
theorem law_from {P:Program} {T:Tab} (hm:P.follows .mixedOrders = true) (hT:TabOk P T) {W:World} {call:Call Unit} (hC:jb P T W.heap.size W call) {f:FuncId} {fn:Func} {c:IC} {rs:List ResultVar}
  (hf:P.funcs[f]? = some fn) (hb:fn.body = some c.code) (hname:(fn.name == "runtime.NumGoroutine") = false) (hrs:fn.results.toList = rs) (hic:icOk T fn.ntmps c = true) {args:List V} {xs:Array Value} {n:Nat} {ι:Io} {h:H}
  (R:HR T W.heap.size W (fun _=>False) ι h W) (hv:VRL ι (okOf h fun _=>False) args xs.toList) (hsz:args.length≤fn.ntmps) (e:evF T call n c rs args κ0 h = some ()) :
  Calls P f xs W fun e w'=>e = .returned (.bool true) ∧ RowKit.Below W.heap.size W w':=by
 refine (zdw hm hT hC hf hb hname hrs hic R (Lft.none _) hv hsz e).2.mono ?_
 rintro e w' ⟨r, h'', ι', e1, R', _, hend⟩
 have:r = .ret (.bool true):=by
  unfold κ0 at e1
  cases r with
  | pan v=>cases e1
  | ret v=>
   cases v with
   | bool b=>
    cases b
    ·cases e1
    ·rfl
   | _=>cases e1
 subst this
 refine ⟨?_, R'.env.1, R'.env.2.1, R'.env.2.2, R'.size, R'.old⟩
 cases e with
 | returned x=>rw [show x = _ from hend]
 | _=>exact hend.elim
noncomputable def h1 (cs:List V):H:=h0.push (.cells cs false)
theorem zfh {e:TypeId}:∀ {l:List (DataW H')} {d:DataW H'}, d ∈ l->(DataW.weightsAll P e l).all (·≤reachBytes) = true->(d.weights P e).all (·≤reachBytes) = true
 | x :: l, d, hd, h=>by
  simp only [DataW.weightsAll, List.all_append, Bool.and_eq_true] at h
  rcases List.mem_cons.1 hd with rfl | hd
  ·exact h.1
  ·exact zfh hd h.2
end
end Go.Ab
namespace Go.Ab
open Go.Deep Go.ChangeShapes Go.WideShapes
abbrev Bls:=List (List V × Pl)
noncomputable def hP (h:H):Bls->H
 | []=>h
 | b :: bs=>hP (h.push (.cells b.1 false)) bs
noncomputable def hN (bs:Bls):H:=hP h0 bs
theorem hP_next:∀ (bs:Bls) (h:H), (hP h bs).next = h.next + bs.length
 | [], h=>rfl
 | b :: bs, h=>by rw [hP, hP_next bs, List.length_cons]; show h.next + 1 + _ = _; omega
theorem hP_old:∀ (bs:Bls) (h:H) (j:Nat), j < h.next->(hP h bs).get j = h.get j
 | [], h, j, _=>rfl
 | b :: bs, h, j, hj=>by rw [hP, hP_old bs _ j (Nat.lt_succ_of_lt hj), yb h _ (Nat.ne_of_lt hj)]
theorem hP_get:∀ (bs:Bls) (h:H) (i:Nat), (∀ j, h.next≤j->h.get j = none)->(hP h bs).get (h.next + i) = (bs[i]?).map fun b=>.cells b.1 false
 | [], h, i, hn=>by rw [hP, hn _ (Nat.le_add_right _ _)]; rfl
 | b :: bs, h, 0, hn=>by rw [hP, Nat.add_zero, hP_old bs _ _ (Nat.lt_succ_self _), je]; rfl
 | b :: bs, h, i + 1, hn=>by
  rw [hP, List.getElem?_cons_succ, ← hP_get bs (h.push (.cells b.1 false)) i fun j hj=>by
   have hj:h.next + 1≤j:=hj
   rw [yb h _ (by omega)]; exact hn j (by omega)]
  show _ = (hP (h.push _) bs).get (h.next + 1 + i)
  congr 1; omega
theorem hN_get (bs:Bls) (j:Nat):(hN bs).get j = (bs[j]?).map fun b=>.cells b.1 false:=by
 have:=hP_get bs h0 j (fun _ _=>rfl)
 rwa [show h0.next + j = j from Nat.zero_add j] at this
theorem hN_next (bs:Bls):(hN bs).next = bs.length:=(hP_next bs h0).trans (Nat.zero_add _)
def ιN (bs:Bls):Io:=fun j=>match bs[j]? with | some b=>b.2 | none=>⟨0, 0, 0⟩
def BOk (W:World) (ι:Io) (ok:Nat->Prop) (b:List V × Pl):Prop:=
 ∃ (arr:Array Value) (elem:TypeId) (fr:Nat × Nat), W.heap[b.2.cb]? = some (.cells arr elem fr) ∧ b.2.sh + b.1.length≤arr.size ∧
  VRL ι ok b.1 ((arr.toList.drop b.2.sh).take b.1.length) ∧ b.1.all oneV = true
theorem HR.initN {T:Tab} (hg:∀ g, T.glob g = none) (W:World) {bs:Bls} (hb:∀ b ∈ bs, BOk W (ιN bs) (okOf (hN bs) fun _=>False) b) :
  HR T W.heap.size W (fun _=>False) (ιN bs) (hN bs) W:=by
 have only:∀ {i:Nat} {c:Blk}, (hN bs).get i = some c->∃ b, bs[i]? = some b ∧ c = .cells b.1 false:=by
  intro i c h
  rw [hN_get] at h
  cases e:bs[i]? with
  | none=>rw [e] at h; cases h
  | some b=>rw [e] at h; exact ⟨b, rfl, (Option.some.inj h).symm⟩
 refine ⟨Nat.le_refl _, fun _ _=>rfl, fun i c h=>?_, fun i c _ h=>?_, fun i j b c _ _ h _ ho=>?_, fun g i h=>(by rw [hg g] at h; cases h), rfl, rfl, rfl⟩
 ·obtain ⟨b, e, -⟩:=only h
  rw [hN_next]; exact (List.getElem?_eq_some_iff.1 e).1
 ·obtain ⟨b, e, rfl⟩:=only h
  obtain ⟨arr, elem, fr, h1, h2, h3, h4⟩:=hb b (List.mem_of_getElem? e)
  have ei:ιN bs i = b.2:=by unfold ιN; rw [e]
  rw [ei]
  refine ⟨arr, elem, fr.1, fr.2, h1, h2, h3, h4, ⟨fun h=>(by cases h), fun _=>?_⟩⟩
  rcases Nat.lt_or_ge b.2.cb W.heap.size with h | h
  ·exact h
  ·rw [Array.getElem?_eq_none h] at h1; cases h1
 ·obtain ⟨_, _, rfl⟩:=only h; cases ho
def zbt (ι:Io) (ok:Nat->Prop) (h:H) (n:Nat) (bs:Bls):Prop:=
 ∀ (i:Nat) b, bs[i]? = some b->ι (n + i) = b.2 ∧ ok (n + i) ∧ h.get (n + i) = some (.cells b.1 false) ∧ n + i < h.next
theorem zbt.mk (pre bs post:Bls):zbt (ιN (pre ++ bs ++ post)) (okOf (hN (pre ++ bs ++ post)) fun _=>False) (hN (pre ++ bs ++ post)) pre.length bs:=by
 intro i b hb
 have hlt:i < bs.length:=(List.getElem?_eq_some_iff.1 hb).1
 have e:(pre ++ bs ++ post)[pre.length + i]? = some b:=by
  rw [List.getElem?_append_left (by simp; omega), List.getElem?_append_right (by omega), Nat.add_sub_cancel_left]
  exact hb
 have hn:pre.length + i < (hN (pre ++ bs ++ post)).next:=by rw [hN_next]; simp; omega
 exact ⟨by unfold ιN; rw [e], ⟨hn, fun h=>h⟩, by rw [hN_get, e]; rfl, hn⟩
theorem zbt.app {ι:Io} {ok:Nat->Prop} {h:H} {n:Nat} {a b:Bls} (s:zbt ι ok h n (a ++ b)):zbt ι ok h n a ∧ zbt ι ok h (n + a.length) b:=by
 refine ⟨fun i x hx=>s i x ?_, fun i x hx=>?_⟩
 ·rw [List.getElem?_append_left (List.getElem?_eq_some_iff.1 hx).1]; exact hx
 ·have:=s (a.length + i) x (by rw [List.getElem?_append_right (by omega), Nat.add_sub_cancel_left]; exact hx)
  rw [← Nat.add_assoc] at this
  exact this
section
variable {H':Type} {enc:TypeId × Value->H'} {P:Program} {w:World}
theorem open_in {t e:TypeId} {sz by':Nat} {fuel:Nat} {v:Value} {x:DataW H' × List MemPlace} (ht:P.underlying t = some (.slice e)) (hc:P.cellsOf e = sz) (hby:P.bytesOf e = by') (hz:0 < sz)
  (h00:∃ arr elem fr, w.heap[0]? = some (.cells arr elem fr))
  (h:DataW.trod enc P w 0 (fun _=>true) true fuel t [v] = some x) (hw:(x.1.weights P t).all (·≤reachBytes) = true) :
  v = .slice none 0 0 ∨ ∃ (p:Pl) (len cap:Nat) (arr:Array Value) (elem:TypeId) (fr:Nat × Nat) (D:Nat->DataW H'), (∃ a:Addr, v = .slice (some a) len cap ∧ (cap = 0 ∨ a = ⟨p.cb, p.sh, none⟩)) ∧
   len≤cap ∧ cap * by'≤reachBytes ∧ w.heap[p.cb]? = some (.cells arr elem fr) ∧ p.sh + len * sz≤arr.size ∧
   ∀ i, i < len->((D i).weights P e).all (·≤reachBytes) = true ∧ ∃ cs q n, cs.length = sz ∧ (∀ j, j < sz->arr[p.sh + (i * sz + j)]? = cs[j]?) ∧ DataW.trod enc P w 0 (fun _=>true) true n e cs = some (D i, q):=by
 rcases open_slice ht h with h0 | ⟨a, len, cap0, cap, n, D, Pl, hs, -, hl, hm, rfl, rfl, hi⟩
 ·exact .inl (by simpa using h0.1)
 right
 simp only [List.cons.injEq, and_true] at hs
 subst hs
 simp only [DataW.weights, ht, List.all_cons, List.all_append, Bool.and_eq_true, decide_eq_true_eq, List.length_map, List.length_range, hby, if_true] at hw
 have hcap:cap * by'≤reachBytes:=by rw [show cap = len + (cap - len) by omega]; exact hw.1
 rcases Nat.eq_zero_or_pos cap with rfl | h0
 ·obtain ⟨arr, elem, fr, hb⟩:=h00
  have:len = 0:=by omega
  subst this
  exact ⟨⟨0, 0, 0⟩, 0, 0, arr, elem, fr, D, ⟨a, rfl, .inl rfl⟩, Nat.le_refl _, hcap, hb, by simp, fun i hi=>by omega⟩
 obtain ⟨cb, o, spot⟩:=a
 obtain ⟨cs0, g1, g2⟩:=hi 0 (by simpa using h0)
 rw [hc] at g1
 obtain ⟨_, hlen0, hget0⟩:=World.cells?_some g1
 have g3:=hget0 0 hz
 rw [List.getElem?_eq_getElem (by omega:0 < cs0.length), show ((⟨cb, o, spot⟩:Addr).add (0 * sz)).add 0 = ⟨cb, o, spot⟩ by simp [Addr.add]] at g3
 have hsp:spot = none:=by
  unfold World.cell? at g3
  cases spot with
  | none=>rfl
  | some s=>split at g3 <;> simp at g3
 subst hsp
 have cell:∀ {q:Nat} {c:Value}, w.cell? ((⟨cb, o, none⟩:Addr).add q) = some c->∃ arr elem fr, w.heap[cb]? = some (.cells arr elem fr) ∧ arr[o + q]? = some c:=by
  intro q c hq
  have e1:(⟨cb, o, none⟩:Addr).add q = ⟨cb, o + q, none⟩:=by simp only [Addr.add]; split <;> simp_all
  rw [e1] at hq
  unfold World.cell? at hq
  dsimp only at hq
  split at hq
  ·rename_i arr elem fr hb
   exact ⟨arr, elem, fr, hb, by simpa using hq⟩
  ·cases hq
 obtain ⟨arr, elem, fr, hb, hq0⟩:=cell (q:=0) (by simpa [Addr.add] using g3)
 have each:∀ i, i < len->∃ cs, w.cells? 0 ((⟨cb, o, none⟩:Addr).add (i * sz)) sz = some cs ∧ DataW.trod enc P w 0 (fun _=>true) true n e cs = some (D i, Pl i):=by
  intro i hlt
  have:=hi i (by omega)
  rw [hc] at this
  exact this
 have eachj:∀ i, i < len->∃ cs, cs.length = sz ∧ (∀ j, j < sz->arr[o + (i * sz + j)]? = cs[j]?) ∧ DataW.trod enc P w 0 (fun _=>true) true n e cs = some (D i, Pl i):=by
  intro i hlt
  obtain ⟨cs, h1, h2⟩:=each i hlt
  obtain ⟨_, hlen, hget⟩:=World.cells?_some h1
  refine ⟨cs, hlen, fun j hj=>?_, h2⟩
  have:=hget j hj
  rw [List.getElem?_eq_getElem (by omega:j < cs.length), add_add] at this
  obtain ⟨arr', _, _, hb', hx⟩:=cell this
  rw [hb] at hb'
  obtain ⟨rfl, -, -⟩:=by simpa using hb'
  rw [hx, List.getElem?_eq_getElem (by omega:j < cs.length)]
 refine ⟨⟨cb, o, 0⟩, len, cap, arr, elem, fr, D, ⟨_, rfl, .inr rfl⟩, hl, hcap, hb, ?_, fun i hlt=>⟨zfh (List.mem_map.2 ⟨i, List.mem_range.2 hlt, rfl⟩) hw.2.1, ?_⟩⟩
 ·show o + len * sz≤arr.size
  rcases Nat.eq_zero_or_pos len with rfl | hpos
  ·obtain ⟨h, -⟩:=Array.getElem?_eq_some_iff.1 hq0
   simp; omega
  ·obtain ⟨cs, h1, h2, _⟩:=eachj (len - 1) (by omega)
   have:=h2 (sz - 1) (by omega)
   rw [List.getElem?_eq_getElem (by omega:sz - 1 < cs.length)] at this
   obtain ⟨h, -⟩:=Array.getElem?_eq_some_iff.1 this
   have:(len - 1) * sz + sz = len * sz:=by rw [← Nat.succ_mul]; congr 1; omega
   omega
 ·obtain ⟨cs, h1, h2, h3⟩:=eachj i hlt
  exact ⟨cs, _, _, h1, h2, h3⟩
theorem open1 {T:Tab} (hg:∀ g, T.glob g = none) {B:Nat->Bls} {Q:Io->(Nat->Prop)->H->Nat->Prop} (hB:∀ ι ok h n, zbt ι ok h n (B n)->Q ι ok h n ∧ ∀ b ∈ B n, BOk w ι ok b) :
  ∃ h ι n, HR T w.heap.size w (fun _=>False) ι h w ∧ Q ι (okOf h fun _=>False) h n:=by
 have s:=zbt.mk [] (B 0) []
 rw [List.nil_append, List.append_nil] at s
 obtain ⟨q, b⟩:=hB _ _ _ _ s
 exact ⟨_, _, _, HR.initN hg w b, q⟩
end
end Go.Ab
