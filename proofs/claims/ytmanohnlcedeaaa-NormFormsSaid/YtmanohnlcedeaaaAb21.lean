import Derived.Test.YtmanohnlcedeaaaAb20
import Derived.Deep.Slices
import Derived.ChangeShapes
set_option linter.unusedVariables false
set_option linter.unusedSimpArgs false
namespace Go.Ab
open Go.Deep Go.ChangeShapes Go.WideShapes
section
variable {H':Type} {enc:TypeId × Value->H'} {P:Program} {w:World}
theorem law_from {P:Program} {T:Tab} (hm:P.follows .mixedOrders = true) (hT:TabOk P T) {W:World} {call:Call (Bool × H)} (hC:zo P T W.heap.size W call) {f:FuncId} {fn:Func} {c:IC} {rs:List ResultVar}
  (hf:P.funcs[f]? = some fn) (hb:fn.body = some c.code) (hname:(fn.name == "runtime.NumGoroutine") = false) (hrs:fn.results.toList = rs) (hic:icOk T fn.ntmps c = true) {args:List V} {xs:Array Value} {n:Nat} {ι:Io} {h h':H}
  (R:HR T W.heap.size W (fun _=>False) ι h W) (hv:VRL ι (okOf h fun _=>False) args xs.toList) (hsz:args.length≤fn.ntmps) (e:evF T call n c rs args κ0 h = some (true, h')) :
  Calls P f xs W fun e w'=>e = .returned (.bool true) ∧ RowKit.Below W.heap.size W w':=by
 refine (zlp hm (fun _ h=>h) hT hC hf hb hname hrs hic R (fun _ h=>h.elim) hv hsz e).2.mono ?_
 rintro e w' ⟨r, h'', ι', e1, R', _, hend⟩
 have:r = .ret (.bool true):=by
  unfold κ0 at e1
  cases r with
  | pan v=>cases e1
  | ret v=>
   cases v with
   | bool b=>dsimp only at e1; cases e1; rfl
   | _=>cases e1
 subst this
 refine ⟨?_, R'.env.1, R'.env.2.1, R'.env.2.2, R'.size, R'.old⟩
 cases e with
 | returned x=>rw [show x = _ from hend]
 | _=>exact hend.elim
def h1 (cs:List V):H:=⟨1, fun j=>cond (Nat.beq j 0) (some (.cells cs false)) none⟩
theorem HR.init1 {T:Tab} (hg:∀ g, T.glob g = none) (W:World) {p:Pl} {cs:List V} {arr:Array Value} {elem:TypeId} {fr:Nat × Nat} (hb:W.heap[p.cb]? = some (.cells arr elem fr)) (hsz:p.sh + cs.length≤arr.size)
  (hv:VRL (fun _=>p) (okOf (h1 cs) fun _=>False) cs ((arr.toList.drop p.sh).take cs.length)) (ho:cs.all oneV = true):HR T W.heap.size W (fun _=>False) (fun _=>p) (h1 cs) W:=by
 have hlt:p.cb < W.heap.size:=by
  rcases Nat.lt_or_ge p.cb W.heap.size with h | h
  ·exact h
  ·rw [Array.getElem?_eq_none h] at hb; cases hb
 have only:∀ {i:Nat} {b:Blk}, (h1 cs).get i = some b->i = 0 ∧ b = .cells cs false:=by
  intro i b h
  match i, h with
  | 0, h=>exact ⟨rfl, (Option.some.inj h).symm⟩
  | i + 1, h=>cases h
 refine ⟨Nat.le_refl _, fun _ _=>rfl, fun i b h=>?_, fun i b _ h=>?_, fun i j b c _ _ h _ ho=>?_, fun g i h=>(by rw [hg g] at h; cases h), rfl, rfl, rfl⟩
 ·obtain ⟨rfl, rfl⟩:=only h; exact Nat.one_pos
 ·obtain ⟨rfl, rfl⟩:=only h
  exact ⟨arr, elem, fr.1, fr.2, hb, hsz, hv, ho, ⟨fun h=>(by cases h), fun _=>hlt⟩⟩
 ·obtain ⟨rfl, rfl⟩:=only h; cases ho
theorem zji {e:TypeId}:∀ {l:List (DataW H')} {d:DataW H'}, d ∈ l->(DataW.weightsAll P e l).all (·≤reachBytes) = true->(d.weights P e).all (·≤reachBytes) = true
 | x :: l, d, hd, h=>by
  simp only [DataW.weightsAll, List.all_append, Bool.and_eq_true] at h
  rcases List.mem_cons.1 hd with rfl | hd
  ·exact h.1
  ·exact zji hd h.2
theorem open_rows {t e:TypeId} {sz by' b0:Nat} {v:Value} {d:DataW H'} {ps:List MemPlace} (ht:P.underlying t = some (.slice e)) (hc:P.cellsOf e = sz) (hby:P.bytesOf e = by') (hz:0 < sz) (hval:Value.okWide P w .any b0 t v)
  (h:DataW.Trod enc P w 0 (fun _=>true) true t v d ps) (hw:(d.weights P t).all (·≤reachBytes) = true) :
  v = .slice none 0 0 ∨ ∃ (cb o len cap:Nat) (arr:Array Value) (elem:TypeId) (fr:Nat × Nat) (D:Nat->DataW H'), v = .slice (some ⟨cb, o, none⟩) len cap ∧ len≤cap ∧ cap * by'≤reachBytes ∧ w.heap[cb]? = some (.cells arr elem fr) ∧ (cap = 0 ∨ o≤arr.size) ∧
   ∀ i, i < len->((D i).weights P e).all (·≤reachBytes) = true ∧ ∃ cs p n, cs.length = sz ∧ (∀ j, j < sz->arr[o + i * sz + j]? = cs[j]?) ∧ DataW.trod enc P w 0 (fun _=>true) true n e cs = some (D i, p):=by
 obtain ⟨fuel, hf⟩:=h
 have hok':v = .slice none 0 0 ∨ ∃ a len cap, v = .slice (some a) len cap ∧ w.has P .any b0 a e cap:=by
  obtain ⟨a, len, cap, rfl⟩:=okWide_slice ht hval
  simp only [Value.okWide, ht, Cell.okWide, Cell.ok] at hval
  cases a with
  | none=>
   match len, cap, hval with
   | 0, 0, _=>exact .inl rfl
  | some a=>exact .inr ⟨a, len, cap, rfl, hval.2.2⟩
 rcases hok' with rfl | ⟨a, len, cap, rfl, _, hsp, row, cells, hsh, _⟩
 ·exact .inl rfl
 right
 obtain ⟨cb, o, spot⟩:=a
 simp only at hsp hsh
 subst hsp
 have hblk:∃ arr elem fr, w.heap[cb]? = some (.cells arr elem fr):=by
  unfold World.shape? at hsh
  split at hsh
  ·rename_i x y z hx; exact ⟨x, y, z, hx⟩
  ·cases hsh
 obtain ⟨arr, elem, fr, hblk⟩:=hblk
 have hcell:∀ q, w.cell? ⟨cb, q, none⟩ = arr[q]?:=fun q=>by unfold World.cell?; simp [hblk]
 rcases open_slice ht (show DataW.trod enc P w 0 (fun _=>true) true fuel t [.slice (some ⟨cb, o, none⟩) len cap] = some (d, ps) from hf) with h0 | ⟨a', len', cap', m, n, D, Pl, hs, hb', hl, hm, rfl, hx, hi⟩
 ·cases h0.1
 ·simp only [List.cons.injEq, Value.slice.injEq, and_true, Option.some.injEq] at hs
  obtain ⟨rfl, rfl, rfl⟩:=hs
  obtain ⟨rfl, -⟩:=Prod.mk.inj hx
  simp only [DataW.weights, ht, List.all_cons, List.all_append, Bool.and_eq_true, decide_eq_true_eq, List.length_map, List.length_range, hby] at hw
  refine ⟨cb, o, len, cap, arr, elem, fr, D, rfl, hl, by rw [show cap = len + (cap - len) by omega]; exact hw.1, hblk, ?_, fun i hlt=>⟨zji (List.mem_map.2 ⟨i, List.mem_range.2 hlt, rfl⟩) hw.2.1, ?_⟩⟩
  ·rcases Nat.eq_zero_or_pos cap with h0 | h0
   ·exact .inl h0
   ·obtain ⟨cs, h1, h2⟩:=hi 0 h0
    rw [hc] at h1
    obtain ⟨_, hlen, hget⟩:=World.cells?_some h1
    have:=hget 0 hz
    rw [show ((⟨cb, o, none⟩:Addr).add (0 * sz)).add 0 = ⟨cb, o, none⟩ by simp [Addr.add], hcell, List.getElem?_eq_getElem (by omega)] at this
    obtain ⟨h, -⟩:=Array.getElem?_eq_some_iff.1 this
    exact .inr (by omega)
  obtain ⟨cs, h1, h2⟩:=hi i (by omega)
  rw [hc] at h1
  obtain ⟨_, hlen, hget⟩:=World.cells?_some h1
  refine ⟨cs, _, _, hlen, fun j hj=>?_, h2⟩
  have:=hget j hj
  rw [add_add] at this
  rw [← this]
  by_cases h0:i * sz + j = 0
  ·rw [show (⟨cb, o, none⟩:Addr).add (i * sz + j) = ⟨cb, o, none⟩ by simp [Addr.add, h0], hcell, Nat.add_assoc, h0, Nat.add_zero]
  ·rw [show (⟨cb, o, none⟩:Addr).add (i * sz + j) = ⟨cb, o + (i * sz + j), none⟩ by simp only [Addr.add]; split <;> simp_all, hcell, Nat.add_assoc]
end
end Go.Ab
