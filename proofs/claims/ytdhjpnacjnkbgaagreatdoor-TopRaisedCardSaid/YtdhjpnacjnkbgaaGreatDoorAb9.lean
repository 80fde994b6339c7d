import Derived.Test.YtdhjpnacjnkbgaaGreatDoorAb8
import Derived.Maps.RangeRun
set_option linter.unusedVariables false
set_option linter.unusedSimpArgs false
set_option linter.unusedSectionVars false
namespace Go.Ab
def isNx:Op->Bool
 | .next _ _=>true
 | _=>false
theorem anyK_inv {α β:Type} (hα:Subsingleton α) {l:List β} {K:β->M α} {h:H} {out:α} (e:anyK l K h = some out):∀ x ∈ l, K x h = some out:=by
 cases l with
 | nil=>intro x hx; cases hx
 | cons y ys=>
  simp only [anyK] at e
  cases hy:K y h with
  | none=>rw [hy] at e; cases e
  | some a=>
   rw [hy] at e
   dsimp only at e
   cases hall:ys.all fun y=>(K y h).isSome with
   | false=>rw [hall] at e; cases e
   | true=>
    intro x hx
    have:∃ b, K x h = some b:=by
     rcases List.mem_cons.1 hx with rfl | hx
     ·exact ⟨a, hy⟩
     ·exact Option.isSome_iff_exists.1 (List.all_eq_true.1 hall x hx)
    obtain ⟨b, hb⟩:=this
    rw [hb, Subsingleton.elim b out]
section ops
variable {α:Type} {P:Program} {T:Tab} {base:Nat} {w0:World} {X:Nat->Prop} {ι:Io} {h:H} {w:World} {call:Call α} {o:Oper} {ρ:Frame}
 {ρ':Operand->Value} {K E:V->M α} {out:α}
theorem op_range (hT:TabOk P T) (R:HR T base w0 X ι h w) (hX:∀ i, X i->i < h.next) (hρ:∀ x, VR ι (okOf h X) (ev T ρ x) (ρ' x)) {t:TypeId} {x:Operand} (ho:o.op = .range t x)
  (e:zi T call ρ o K E h = some out):zr P T base w0 X call ι h w o ρ' K E out:=by
 simp only [zi, ho] at e
 have hx:=hρ x
 have made:∀ (it:It) (ob:Obj), (Instr.range t (ρ' x)).run P w = .ok (.pointer (some ⟨w.heap.size, 0, none⟩)) (w.alloc ob)->newIt it (fun r=>K (.ptr (some ⟨r, 0⟩))) h = some out ->
   ItR (ι.set h.next ⟨w.heap.size, 0, 0⟩) (fun i=>i < h.next + 1 ∧ ¬ X i) (w.alloc ob) ⟨w.heap.size, 0, 0⟩ it->zr P T base w0 X call ι h w o ρ' K E out:=by
  intro it ob hr e hit
  obtain ⟨R', W'⟩:=R.push hX (o:=ob) (b:=.iter it) (p:=⟨w.heap.size, 0, 0⟩) rfl ⟨rfl, R.size, hit⟩
  exact .inl ⟨_, _, _, _, _, e, .inl (by simp [execOp, ho, hr]), R', W', zjr hX _ ⟨w.heap.size, 0, 0⟩ rfl⟩
 generalize ev T ρ x = v at e hx
 cases hi:T.ti t with
 | none=>rw [hi] at e; cases v <;> cases e
 | some i=>
 rw [hi] at e
 have I:=hT.ti t _ hi
 obtain ⟨und, a1, a2, z, a4, a5, a6⟩:=i
 have hu:=run_underlying I.und w
 cases v with
 | str s=>
  cases und <;> first | (cases e; done) | skip
  obtain ⟨b, hb, hs⟩:=hx
  refine made _ (.stringIter b 0) ?_ e ⟨b, by rw [yg]; simp, hs⟩
  simp [Instr.range, hu, hb, newObj]
  rfl
 | map r=>
  cases und <;> first | (cases e; done) | skip
  dsimp only at e
  rcases zdq e with ⟨rfl, e⟩ | ⟨m, es, rfl, hg, e⟩
  ·refine made _ (.mapIter none 0 #[] 0) ?_ e ⟨#[], by rw [yg]; simp, fun _ h=>(by cases h), fun i=>by simp, fun h=>absurd rfl h⟩
   simp [Instr.range, hu, show ρ' x = .map none from hx, newObj]
   rfl
  ·obtain ⟨hok, hx⟩:=hx
   obtain ⟨ces, clock, hh, _, g1, g2, g3⟩:=R.blk m _ hok.2 hg
   have hlen:es.length = ces.size:=by simpa using g1.length
   refine made _ (.mapIter (some (ι m).cb) clock #[] clock) ?_ e ⟨#[], ?_, fun r hr=>(by cases hr; exact ⟨Nat.lt_succ_of_lt hok.1, hok.2⟩), fun i=>by simp, fun h=>absurd rfl h⟩
   ·simp [Instr.range, hu, hx, newObj, MapKept.run_getObj_map hh]
    rfl
   ·rw [yg, if_pos rfl, hlen, ← g3.1]
    simp [Io.set, Nat.ne_of_lt hok.1]
 | _=>cases e
theorem zji {b:ByteArray} {pos:Nat} {c:UInt8} (hc:b.data.toList[pos]? = some c) (h:c.toNat < 128):Utf8.decode b pos = (c.toNat, 1):=by
 have hg:b.get! pos = c:=by
  rw [Array.getElem?_toList] at hc
  show b.data[pos]! = c
  rw [getElem!_def, hc]
 simp only [Utf8.decode, Nat.add_zero, hg]
 rw [if_pos (by simpa using h)]
theorem zih {n seen i:Nat}:i ∈ zfz n seen ↔ i < n ∧ seen.testBit i = false:=by
 simp [zfz]
theorem or_bit (seen i j:Nat):(seen ||| 2 ^ i).testBit j = (seen.testBit j || decide (i = j)):=by
 rw [Nat.testBit_or, Nat.testBit_two_pow]
theorem zmk (k i:Nat):(k == i) = decide (i = k):=by
 by_cases h:k = i
 ·subst h; simp
 ·have h2:¬ i = k:=fun e=>h e.symm
  simp [h, h2]
theorem op_next (hα:Subsingleton α) (R:HR T base w0 X ι h w) (hρ:∀ x, VR ι (okOf h X) (ev T ρ x) (ρ' x)) {it:Operand} {b:Bool} (ho:o.op = .next it b)
  (e:zi T call ρ o K E h = some out):zr P T base w0 X call ι h w o ρ' K E out:=by
 simp only [zi, ho] at e
 obtain ⟨p, hp, e⟩:=jz e
 obtain ⟨p, rfl, e⟩:=jk e
 obtain ⟨hoff, e⟩:=zg e
 have hoff:=Nat.eq_of_beq_eq_true hoff
 have hx:=hρ it
 rw [hp] at hx
 obtain ⟨hok, hx⟩:=hx
 -- it is over
 have over:(Instr.next (ρ' it) b o.type).run P w = .ok (.tuple #[.bool false]) w->K (.tuple [.bool false]) (h.put p.id none) = some out->zr P T base w0 X call ι h w o ρ' K E out:=by
  intro hr e
  obtain ⟨R', W'⟩:=R.forget hok.2
  exact .inl ⟨_, _, _, .tuple #[.bool false], _, e, .inl (by simp [execOp, ho, hr]), R', W', _, rfl, rfl, trivial⟩
 have ptr:∀ bk, h.get p.id = some (.iter bk)->ρ' it = .pointer (some ⟨(ι p.id).cb, 0, none⟩) ∧ base≤(ι p.id).cb ∧ ItR ι (fun i=>i < h.next ∧ ¬ X i) w (ι p.id) bk:=by
  intro bk hg
  obtain ⟨h1, h2, h3⟩:=R.blk _ _ hok.2 hg
  exact ⟨by rw [hx]; simp [Ad.to, h1, hoff], h2, h3⟩
 cases b with
 | true=>
  dsimp only at e
  unfold nextS at e
  dsimp only at e
  split at e
  ·rename_i s pos hg
   obtain ⟨hr, hb, bs, hh, hs⟩:=ptr _ hg
   have hsz:bs.size = s.length:=by rw [← hs]; rfl
   cases hc:s[pos]? with
   | none=>
    rw [hc] at e
    refine over ?_ e
    have:¬ pos < bs.size:=fun hlt=>by
     rw [hsz] at hlt
     rw [List.getElem?_eq_getElem hlt] at hc; cases hc
    rw [hr]
    simp [Instr.next, getObj, Sem.run, hh, this]
   | some c=>
    rw [hc] at e
    dsimp only at e
    cases hl:Nat.blt c.toNat 128 with
    | false=>rw [hl] at e; cases e
    | true=>
     rw [hl, cond_true] at e
     have hlt:pos < bs.size:=by
      rw [hsz]
      rcases Nat.lt_or_ge pos s.length with h | h
      ·exact h
      ·rw [List.getElem?_eq_none h] at hc; cases hc
     have hd:=zji (b:=bs) (pos:=pos) (c:=c) (by rw [hs]; exact hc) (Nat.lt_of_succ_le (Nat.le_of_ble_eq_true hl))
     have hlt2:=(R.blk _ _ hok.2 hg).lt
     obtain ⟨R', W'⟩:=R.setBlk (b':=.iter (.str s (pos + 1))) (o:=.stringIter bs (pos + 1)) hok.2 hg rfl hb ⟨(R.blk _ _ hok.2 hg).1, hb, bs, by simp [hlt2], hs⟩
     refine .inl ⟨_, _, _, .tuple #[.bool true, goInt pos, .int .i32 c.toNat], _, e, .inl ?_, R', W', _, rfl, rfl, rfl, rfl, trivial⟩
     have:(Instr.next (ρ' it) true o.type).run P w = .ok (.tuple #[.bool true, goInt pos, .int .i32 c.toNat]) { w with heap:=w.heap.setIfInBounds (ι p.id).cb (.stringIter bs (pos + 1)) }:=by
      rw [hr]
      simp [Instr.next, getObj, setObj, Sem.run, hh, hlt, hd]
     simp [execOp, ho, this]
  ·cases e
 | false=>
  dsimp only at e
  unfold nextM at e
  dsimp only at e
  split at e
  ·rename_i hg
   obtain ⟨hr, hb, sn, hh, _⟩:=ptr _ hg
   refine over ?_ e
   rw [hr]
   simp [Instr.next, getObj, Sem.run, hh]
  ·rename_i m n seen last hg
   obtain ⟨hr, hb, sn, hh, hm, hsn, hlast⟩:=ptr _ hg
   split at e
   ·rename_i es hgm
    have hokm:=hm m rfl
    obtain ⟨ces, clock, hhm, hbm, g1, g2, g3⟩:=R.blk m _ hokm.2 hgm
    have hlen:es.length = ces.size:=by simpa using g1.length
    cases hn:Nat.beq es.length n with
    | false=>rw [hn] at e; cases e
    | true=>
     rw [hn, cond_true] at e
     have hn:=Nat.eq_of_beq_eq_true hn
     have hold:∀ x ∈ ces.toList, x.born < n:=by
      intro x hx
      obtain ⟨i, hi⟩:=List.getElem?_of_mem hx
      rw [Array.getElem?_toList] at hi
      have h1:=g3.2 i x hi
      have h2:=(Array.getElem?_eq_some_iff.1 hi).1
      omega
     have hclock:clock = n:=by rw [g3.1]; omega
     -- what is left
     have hleft:∀ x, x ∈ (leftOf ces sn).toList ↔ ∃ i, ces[i]? = some x ∧ i ∈ zfz n seen:=by
      intro x
      simp only [leftOf, Array.toList_filter, List.mem_filter, zih, Bool.not_eq_true']
      constructor
      ·rintro ⟨hx, hs⟩
       obtain ⟨i, hi⟩:=List.getElem?_of_mem hx
       rw [Array.getElem?_toList] at hi
       have h1:=g3.2 i x hi
       have h2:=(Array.getElem?_eq_some_iff.1 hi).1
       exact ⟨i, hi, by omega, by rw [← hsn, ← h1]; exact hs⟩
      ·rintro ⟨i, hi, h1, h2⟩
       refine ⟨Array.mem_toList_iff.2 (Array.mem_of_getElem? hi), ?_⟩
       rw [g3.2 i x hi, hsn]; exact h2
     rcases run_next_at (P:=P) w o.type (ι p.id).cb (ι m).cb n n sn ces clock hh hhm hold (Nat.le_refl _) with ⟨h0, hrun⟩ | ⟨x, hx, w1, hw1, hrun⟩
     ·have:zfz n seen = []:=by
       cases hq:zfz n seen with
       | nil=>rfl
       | cons i l=>
        exfalso
        have hi:i ∈ zfz n seen:=by rw [hq]; exact List.mem_cons_self
        have hlt:i < ces.size:=by have:=(zih.1 hi).1; omega
        have:=(hleft ces[i]).2 ⟨i, by simp [hlt], hi⟩
        rw [Array.eq_empty_of_size_eq_zero h0] at this
        cases this
      rw [this] at e
      exact over (by rw [hr]; exact hrun) e
     ·obtain ⟨i, hi, hil⟩:=(hleft x).1 hx
      have hborn:=g3.2 i x hi
      cases hq:zfz n seen with
      | nil=>rw [hq] at hil; cases hil
      | cons j l=>
       rw [hq] at e hil
       have e1:=anyK_inv hα e i hil
       have hi':(ces.toList)[i]? = some x:=by rw [Array.getElem?_toList]; exact hi
       have hlt:i < es.length:=by have:=(Array.getElem?_eq_some_iff.1 hi).1; omega
       rw [List.getElem?_eq_getElem hlt] at e1
       dsimp only at e1
       have hkey:VR ι (okOf h X) es[i].1 x.key:=by
        obtain ⟨y, hy, hv⟩:=g1.get (i:=i) (v:=es[i].1) (by simp [hlt])
        rw [List.getElem?_map, hi'] at hy
        cases hy; exact hv
       have hval:VR ι (okOf h X) es[i].2 x.val:=by
        obtain ⟨y, hy, hv⟩:=g2.get (i:=i) (v:=es[i].2) (by simp [hlt])
        rw [List.getElem?_map, hi'] at hy
        cases hy; exact hv
       have R1:HR T base w0 X ι h w1 ∧ Went X ι h w ι h w1:=by
        rcases hw1 with rfl | rfl
        ·exact ⟨R, Went.refl X ι h w1⟩
        ·exact ⟨R.drew, Went.drew X ι h w⟩
       have hlt2:=(R1.1.blk _ _ hok.2 hg).lt
       obtain ⟨R', W'⟩:=R1.1.setBlk (b':=.iter (.map (some m) n (seen ||| 2 ^ i) i)) (o:=.mapIter (some (ι m).cb) n (sn.push x.born) clock) hok.2 hg rfl hb
        ⟨(R.blk _ _ hok.2 hg).1, hb, sn.push x.born, by simp [hlt2, hclock], hm, fun k=>by rw [or_bit, contains_push, hsn, hborn, zmk], fun _=>by rw [Array.back?_push, hborn]⟩
       refine .inl ⟨_, _, _, .tuple #[.bool true, x.key, x.val], _, e1, .inl ?_, R', R1.2.trans W', _, rfl, rfl, hkey, hval, trivial⟩
       rw [← hr] at hrun
       simp [execOp, ho, hrun, ChangeMaps.setBlock]
   ·cases e
  ·cases e
theorem op_entry (R:HR T base w0 X ι h w) (hρ:∀ x, VR ι (okOf h X) (ev T ρ x) (ρ' x)) {it:Operand} (ho:o.op = .entry it)
  (e:zi T call ρ o K E h = some out):zr P T base w0 X call ι h w o ρ' K E out:=by
 simp only [zi, ho] at e
 obtain ⟨p, hp, e⟩:=jz e
 obtain ⟨p, rfl, e⟩:=jk e
 obtain ⟨hoff, e⟩:=zg e
 have hoff:=Nat.eq_of_beq_eq_true hoff
 have hx:=hρ it
 rw [hp] at hx
 obtain ⟨hok, hx⟩:=hx
 unfold entM at e
 dsimp only at e
 split at e
 ·rename_i m n seen last hg
  obtain ⟨hsh, hb, sn, hh, hm, hsn, hlast⟩:=R.blk _ _ hok.2 hg
  cases hs:Nat.beq seen 0 with
  | true=>rw [hs] at e; cases e
  | false=>
   rw [hs, cond_false] at e
   split at e
   ·rename_i es hgm
    have hokm:=hm m rfl
    obtain ⟨ces, clock, hhm, hbm, g1, g2, g3⟩:=R.blk m _ hokm.2 hgm
    have hlen:es.length = ces.size:=by simpa using g1.length
    cases hn:Nat.beq es.length n with
    | false=>rw [hn] at e; cases e
    | true=>
     rw [hn, cond_true] at e
     have hn:=Nat.eq_of_beq_eq_true hn
     have hclock:clock = n:=by rw [g3.1]; omega
     cases hl:es[last]? with
     | none=>rw [hl] at e; cases e
     | some kv=>
      rw [hl] at e
      have hlt:last < ces.size:=by
       rcases Nat.lt_or_ge last es.length with h | h
       ·omega
       ·rw [List.getElem?_eq_none h] at hl; cases hl
      obtain ⟨x, hc⟩:∃ x, ces[last]? = some x:=⟨ces[last], by simp [hlt]⟩
      have hkey:VR ι (okOf h X) kv.1 x.key:=by
       obtain ⟨y, hy, hv⟩:=g1.get (i:=last) (v:=kv.1) (by simp [hl])
       rw [List.getElem?_map, Array.getElem?_toList, hc] at hy
       cases hy; exact hv
      have hval:VR ι (okOf h X) kv.2 x.val:=by
       obtain ⟨y, hy, hv⟩:=g2.get (i:=last) (v:=kv.2) (by simp [hl])
       rw [List.getElem?_map, Array.getElem?_toList, hc] at hy
       cases hy; exact hv
      have hback:sn.back? = some last:=hlast (fun h=>by rw [h] at hs; cases hs)
      have hfind:ces.find? (·.born == last) = some x:=by
       rw [← Array.find?_toList]
       have hb:=g3.2 last _ hc
       subst hb
       refine find_born _ _ ?_ (Array.mem_toList_iff.2 (Array.mem_of_getElem? hc))
       rw [List.nodup_iff_pairwise_ne, List.pairwise_iff_getElem]
       intro i j hi hj hij
       simp only [List.length_map, Array.length_toList] at hi hj
       simp only [List.getElem_map, Array.getElem_toList]
       rw [g3.2 i ces[i] (by simp [hi]), g3.2 j ces[j] (by simp [hj])]
       omega
      refine zr.pure R e (x:=.tuple #[x.key, x.val]) ?_ ⟨_, rfl, hkey, hval, trivial⟩
      have hr:ρ' it = .pointer (some ⟨(ι p.id).cb, 0, none⟩):=by rw [hx]; simp [Ad.to, hsh, hoff]
      have:(Instr.entry (ρ' it)).run P w = .ok (.tuple #[x.key, x.val]) w:=by
       rw [hr]
       simp only [Instr.entry, getObj, Sem.run_bind, Sem.run, hh, hhm, Result.andThen, hback, Option.map_some, hclock, bne_self_eq_false, Bool.false_eq_true, if_false, hfind]
       rfl
      simp [execOp, ho, this]
   ·cases e
 ·cases e
end ops
end Go.Ab
namespace Go.Ab
section ops
variable {α:Type} {P:Program} {T:Tab} {base:Nat} {w0:World} {X:Nat->Prop} {ι:Io} {h:H} {w:World} {call:Call α} {o:Oper} {ρ:Frame}
 {ρ':Operand->Value} {K E:V->M α} {out:α}
theorem zjv (R:HR T base w0 X ι h w) (hρ:∀ x, VR ι (okOf h X) (ev T ρ x) (ρ' x)) {c:Go.Call} {f:Operand} (hc:c.callee = .value f) (ho:o.op = .call c)
  (e:zi T call ρ o K E h = some out):zr P T base w0 X call ι h w o ρ' K E out:=by
 simp only [zi, ho, hc] at e
 have hf:=hρ f
 generalize ev T ρ f = u at e hf
 cases u with
 | func g first cap=>
  dsimp only at e
  obtain ⟨a, b, hx, h1, h2⟩:=hf
  refine .inr (.inr ⟨g, _, a ++ (c.args.map ρ' ++ b), ?_, ?_, e⟩)
  ·simp only [execOp, ho, Sem.run_bind, resolve, hc, hx, Deferred.ofValue, Sem.run_pure, Result.andThen_ok, invoke, Array.append_assoc]
  ·simp only [Array.toList_append, Array.toList_map]
   exact h1.append ((VRL.map hρ _).append h2)
 | _=>cases e
theorem ziq (n:Nat):∀ (r c b:Nat), c≤b->n + n / 4 + 193≤b->Builtin.growBy n r c≤b
 | 0, c, b, h, _=>h
 | r + 1, c, b, h, g=>by
  unfold Builtin.growBy
  split
  ·exact h
  ·exact ziq n r _ b (by omega) g
theorem zam (n c:Nat) (h:c < n):Builtin.nextslicecap n c≤n + n / 4 + 512:=by
 unfold Builtin.nextslicecap
 split
 ·omega
 ·split
  ·omega
  ·exact ziq n 4 c _ (by omega) (by omega)
theorem yx {ats:Array TypeId} {ty t el t1:TypeId} {size:Nat} {d1:TypeDesc} (h0:ats[0]? = some t) (h1:ats[1]? = some t1) (hu:P.underlying t = some (.slice el)) (hu1:P.underlying t1 = some d1)
  (hd:(∃ e, d1 = .slice e) ∨ d1 = .string) (hsz:(sizeOf el).run P w = .ok size w) {b:Option Addr} {l c n:Nat} {src:Value} {news:List Value} (hl:(Builtin.lenOf src).run P w = .ok n w)
  (hf:(Builtin.firstCells size n src).run P w = .ok news.toArray w) (hfit:l + n≤c) :
  (Builtin.append_ ats ty #[.slice b l c, src]).run P w =
   match b with | some a=>((storeCells (a.add (l * size)) news).run P w).andThen (fun _ w'=>.ok (.slice b (l + n) c) w') | none=>.ok (.slice b (l + n) c) w:=by
 rcases hd with ⟨e, rfl⟩ | rfl <;>
 ·cases b <;>
  simp [Builtin.append_, h0, h1, run_underlying hu, run_underlying hu1, hsz, hl, hfit, hf]
theorem zax {ats:Array TypeId} {ty t el t1:TypeId} {inf:TypeInfo} {z:Value} {d1:TypeDesc} (h0:ats[0]? = some t) (h1:ats[1]? = some t1) (hu:P.underlying t = some (.slice el)) (hu1:P.underlying t1 = some d1)
  (hd:(∃ e, d1 = .slice e) ∨ d1 = .string) (hi:P.info? el = some inf) (hz:inf.zero = some z) {b:Option Addr} {l c n:Nat} {src:Value} {olds news:List Value} (hl:(Builtin.lenOf src).run P w = .ok n w)
  (hf:(Builtin.firstCells inf.size n src).run P w.drew = .ok news.toArray w.drew) (hfo:(Builtin.firstCells inf.size l (.slice b l c)).run P w.drew = .ok olds.toArray w.drew)
  (hfit:¬ l + n≤c) (hb:Builtin.nextslicecap (l + n) c * inf.bytes≤281474976710656) (hn:l + n≤9223372036854775807 ∨ inf.bytes ≠ 0) :
  (Builtin.append_ ats ty #[.slice b l c, src]).run P w =
   .ok (.slice (some ⟨w.heap.size, 0, none⟩) (l + n) (grownCap w (l + n) c el)) (w.drew.alloc (.cells (olds.toArray ++ news.toArray ++ Builtin.zeroCells z.cells (grownCap w (l + n) c el - (l + n))) el)):=by
 have hb':¬ (281474976710656 < Builtin.nextslicecap (l + n) c * inf.bytes):=by omega
 have h63:¬ (9223372036854775807 < ((l:Int) + (n:Int)) ∧ inf.bytes = 0):=by rintro ⟨h1, h2⟩; rcases hn with h | h <;> omega
 have hzs:∀ w:World, (typeInfo el).run P w = .ok inf w:=fun w=>by simp [typeInfo, hi]
 have hzv:∀ w:World, (zeroValue el).run P w = .ok z w:=fun w=>by simp [zeroValue, hzs, hz]
 rcases hd with ⟨e, rfl⟩ | rfl <;>
 ·simp [Builtin.append_, h0, h1, run_underlying hu, run_underlying hu1, sizeOf, hzs, hl, hfit, hf, hfo, hzv, hb', h63, Question.forced, newRow, grownCap, IntKind.max, IntKind.signed, IntKind.bits]
  congr 2
  apply Array.ext'
  simp [List.append_assoc]
theorem zge (R:HR T base w0 X ι h w) {s:Sl} {size:Nat} {K:List V->M α} {x:Value} (hs:SlR ι (okOf h X) s x) (e:rdSl s size K h = some out) :
  ∃ (cs:List V) (xs:List Value) (b:Option Addr) (c:Nat), K cs h = some out ∧ x = .slice b s.len c ∧ VRL ι (okOf h X) cs xs ∧ cs.all oneV = true ∧ cs.length = s.len * size ∧
   ∀ w', w'.heap = w.heap->(Builtin.firstCells size s.len x).run P w' = .ok xs.toArray w':=by
 unfold rdSl at e
 unfold SlR at hs
 cases hsa:s.ad with
 | none=>
  rw [hsa] at e hs
  obtain ⟨rfl, rfl⟩:=hs
  obtain ⟨_, e⟩:=zg e
  exact ⟨[], [], none, 0, e, rfl, trivial, rfl, by simp [Sl.nil], fun _ _=>rfl⟩
 | some a=>
  rw [hsa] at e hs
  obtain ⟨hok, b, c, rfl, hb, hle, hlo⟩:=hs
  obtain ⟨cs, hr, e⟩:=zes e
  obtain ⟨arr, elem, fr, harr, hsz, hv, hone, hlen⟩:=R.row hok.2 hr
  have hload:∀ w':World, w'.heap = w.heap->(loadCells (a.to ι) (s.len * size)).run P w' = .ok ((arr.toList.drop ((ι a.id).sh + a.off)).take (s.len * size)).toArray w':=by
   intro w' hw
   have h1:=run_loadCells (P:=P) w' (a.to ι) (s.len * size) (fun j=>(arr[(ι a.id).sh + a.off + j]?).getD default) (fun j hj=>by
    rw [zbl]
    have hlt:(ι a.id).sh + (a.off + j) < arr.size:=by omega
    have hlt':(ι a.id).sh + a.off + j < arr.size:=by omega
    simp [World.cell?, Ad.to, Ad.add, hw, harr, hlt, hlt', Nat.add_assoc])
   rw [h1]
   congr 2
   apply List.ext_getElem?
   intro j
   simp only [List.getElem?_map, List.getElem?_take, List.getElem?_drop]
   by_cases hj:j < s.len * size
   ·rw [List.getElem?_range hj, if_pos hj]
    have hlt':(ι a.id).sh + a.off + j < arr.size:=by omega
    simp [hlt']
   ·rw [if_neg hj, List.getElem?_eq_none (by simpa using hj)]; rfl
  refine ⟨cs, (arr.toList.drop ((ι a.id).sh + a.off)).take (s.len * size), some b, c, e, rfl, hv, hone, hlen, fun w' hw=>?_⟩
  simp only [Builtin.firstCells]
  rcases hb with hb | hb
  ·have hl0:s.len = 0:=by
    cases hlo2:s.loose with
    | none=>rw [hlo2] at hlo; dsimp only at hlo; omega
    | some e=>rw [hlo2] at hlo; have:=hlo.1; omega
   rw [hl0, Nat.zero_mul]
   rfl
  ·rw [hb]; exact hload w' hw
theorem SlR.row {ok:Nat->Prop} {s:Sl} {a:Ad} {x:Value} (ha:s.ad = some a) (hs:SlR ι ok s x):ok a.id ∧ ∃ (b:Addr) (c:Nat), x = .slice (some b) s.len c ∧ (c = 0 ∨ b = a.to ι) ∧ s.len≤s.cap ∧ s.cap≤c ∧
  match s.loose with
   | none=>c = s.cap
   | some e=>a.off + c * e = (ι a.id).tot:=by
 unfold SlR at hs
 rw [ha] at hs
 obtain ⟨h1, b, c, h2, h3, h4, h5⟩:=hs
 refine ⟨h1, b, c, h2, h3, h4, ?_⟩
 cases hl:s.loose with
 | none=>rw [hl] at h5; dsimp only at h5 ⊢; exact ⟨by omega, h5⟩
 | some e=>rw [hl] at h5; dsimp only at h5 ⊢; exact h5
theorem SlR.none_ad {ok:Nat->Prop} {s:Sl} {x:Value} (ha:s.ad = none) (hs:SlR ι ok s x):s = Sl.nil ∧ x = .slice none 0 0:=by
 unfold SlR at hs
 rw [ha] at hs
 exact hs
theorem app_new (R:HR T base w0 X ι h w) (hX:∀ i, X i->i < h.next) {size n len c:Nat} {el:TypeId} {old more:List V} {olds news:List Value} {z:Array Value} (hz:z.size = size)
  (h1:VRL ι (okOf h X) old olds) (h2:VRL ι (okOf h X) more news) (o1:old.all oneV = true) (o2:more.all oneV = true) (l1:old.length = len * size) (l2:more.length = n * size) (hc:len + n≤c) :
  let p:Pl:=⟨w.heap.size, 0, c * size⟩
  let w':=w.alloc (.cells (olds.toArray ++ news.toArray ++ Builtin.zeroCells z (c - (len + n))) el)
  HR T base w0 X (ι.set h.next p) (h.push (.cells (old ++ more) true)) w' ∧ Went X ι h w (ι.set h.next p) (h.push (.cells (old ++ more) true)) w' ∧
   SlR (ι.set h.next p) (okOf (h.push (.cells (old ++ more) true)) X) ⟨some ⟨h.next, 0⟩, len + n, len + n, some size⟩ (.slice (some ⟨w.heap.size, 0, none⟩) (len + n) c):=by
 have hlen1:=h1.length
 have hlen2:=h2.length
 have hsz:(olds.toArray ++ news.toArray ++ Builtin.zeroCells z (c - (len + n))).size = c * size:=by
  simp only [Array.size_append, List.size_toArray, size_zeroCells, hz, ← hlen1, ← hlen2, l1, l2, ← Nat.add_mul]
  congr 1; omega
 have hp:=R.pushRow (cs:=old ++ more) (arr:=olds.toArray ++ news.toArray ++ Builtin.zeroCells z (c - (len + n))) (elem:=el) hX (by
   simp only [Array.toList_append, List.length_append, hlen1, hlen2]
   rw [← List.length_append, List.take_left]
   exact h1.append h2) (by rw [hsz, List.length_append, l1, l2, ← Nat.add_mul]; exact Nat.mul_le_mul_right _ hc) (by rw [List.all_append, o1, o2]; rfl)
 rw [hsz] at hp
 refine ⟨hp.1, hp.2, ⟨by show h.next < h.next + 1; omega, fun hx=>absurd (hX _ hx) (Nat.lt_irrefl _)⟩, _, c, rfl, .inr (by simp [Ad.to, Io.set]), Nat.le_refl _, hc, by simp [Io.set]⟩
theorem app_ok (hT:TabOk P T) (R:HR T base w0 X ι h w) (hX:∀ i, X i->i < h.next) {s:Sl} {n:Nat} {more:List V} {K:Sl->M α} {x src:Value} {news:List Value}
  (hs:SlR ι (okOf h X) s x) {ats:Array TypeId} {ty t el t1:TypeId} {ei:TI} {d1:TypeDesc} (h0:ats[0]? = some t) (h1:ats[1]? = some t1) (hu:P.underlying t = some (.slice el)) (hu1:P.underlying t1 = some d1)
  (hd:(∃ e, d1 = .slice e) ∨ d1 = .string) (hei:T.ti el = some ei) (hl:(Builtin.lenOf src).run P w = .ok n w)
  (hf:∀ w', w'.heap = w.heap->(Builtin.firstCells ei.size n src).run P w' = .ok news.toArray w') (hm:VRL ι (okOf h X) more news) (hone:more.all oneV = true)
  (e:zbo s ei.size ei.bytes n more K h = some out) :
  ∃ s' h' ι' x' w', K s' h' = some out ∧ (Builtin.append_ ats ty #[x, src]).run P w = .ok x' w' ∧ HR T base w0 X ι' h' w' ∧ Went X ι h w ι' h' w' ∧ SlR ι' (okOf h' X) s' x':=by
 have EI:=hT.ti _ _ hei
 obtain ⟨inf, z, hi, hsz, hby, hz, hzv, _⟩:=EI.info
 have hzs:z.cells.size = ei.size:=by
  have:=(hzv ι (okOf h X)).length
  rw [EI.zl] at this
  simpa using this.symm
 have hsize:=EI.run_size (w:=w)
 unfold zbo at e
 obtain ⟨hml, e1⟩:=zg e
 clear e
 have hml:=Nat.eq_of_beq_eq_true hml
 cases hlo:s.loose with
 | none=>
  rw [hlo] at e1
  dsimp only at e1
  cases hc:Nat.ble (s.len + n) s.cap with
  | true=>
   rw [hc] at e1
   simp only [cond_true] at e1
   have hc:=Nat.le_of_ble_eq_true hc
   cases ha:s.ad with
   | none=>
    rw [ha] at e1
    dsimp only at e1
    obtain ⟨rfl, rfl⟩:=hs.none_ad ha
    have hn:n = 0:=by simp [Sl.nil] at hc; omega
    subst hn
    refine ⟨_, h, ι, _, w, e1, ?_, R, Went.refl X ι h w, rfl, rfl⟩
    rw [yx h0 h1 hu hu1 hd hsize hl (hf w rfl) (by omega)]
   | some a=>
    rw [ha] at e1
    dsimp only at e1
    obtain ⟨hok, b, c, rfl, hb, hle, hcc, hcl⟩:=hs.row ha
    rw [hlo] at hcl
    dsimp only at hcl
    subst hcl
    unfold zdc at e1
    cases hw:h.setRow (a.add (s.len * ei.size)) more with
    | none=>rw [hw] at e1; cases e1
    | some h'=>
     rw [hw] at e1
     dsimp only at e1
     obtain ⟨w', hrun, R', W', hz'⟩:=R.setRow P (a:=a.add (s.len * ei.size)) hok.2 hm hone hw
     have hnx:h'.next = h.next:=by
      obtain ⟨_, _, _, rfl⟩:=zda hw
      rfl
     refine ⟨_, h', ι, .slice (some b) (s.len + n) s.cap, w', e1, ?_, R', W', ?_⟩
     ·rw [yx h0 h1 hu hu1 hd hsize hl (hf w rfl) hc]
      rcases hb with hb | hb
      ·have hnl:news = []:=by
        have:news.length = 0:=by rw [← hm.length, hml, show n = 0 by omega, Nat.zero_mul]
        exact List.length_eq_zero_iff.1 this
       subst hnl
       have hrun':(Result.ok () w:Result Unit) = .ok () w':=hrun
       cases hrun'
       rfl
      ·rw [hb]; dsimp only; rw [zbl, hrun]; rfl
     ·refine ⟨⟨by rw [hnx]; exact hok.1, hok.2⟩, b, s.cap, rfl, hb, hc, rfl⟩
  | false=>
   rw [hc] at e1
   simp only [cond_false] at e1
   have hc:¬ s.len + n≤s.cap:=fun h=>by rw [Nat.ble_eq_true_of_le h] at hc; cases hc
   obtain ⟨hb, e2⟩:=zg e1
   clear e1
   rw [Bool.and_eq_true] at hb
   obtain ⟨old, olds, b, c, e3, hx, hov, hoo, hol, hof⟩:=zge (P:=P) R hs e2
   subst hx
   have hcc:c = s.cap:=by
    cases ha:s.ad with
    | none=>obtain ⟨rfl, h⟩:=hs.none_ad ha; cases h; rfl
    | some a=>
     obtain ⟨_, b', c', h1, _, _, _, h2⟩:=hs.row ha
     cases h1
     rw [hlo] at h2
     exact h2
   subst hcc
   have hbb:0 < inf.bytes:=by rw [hby]; exact Nat.lt_of_succ_le (Nat.le_of_ble_eq_true hb.1)
   have hbl:=Nat.le_of_ble_eq_true hb.2
   have hns:=zam (s.len + n) s.cap (by omega)
   rw [← hby] at hbl
   have hr:=zax (P:=P) (w:=w) (ty:=ty) h0 h1 hu hu1 hd hi hz hl (by rw [hsz]; exact hf w.drew rfl) (by rw [hsz]; exact hof w.drew rfl) hc (Nat.le_trans (Nat.mul_le_mul_right _ hns) hbl) (.inr (by omega))
   obtain ⟨R', W', S'⟩:=app_new R.drew hX (el:=el) hzs hov hm hoo hone hol hml (grownCap_ge w (s.len + n) s.cap el)
   exact ⟨_, _, _, _, _, e3, hr, R', (Went.drew X ι h w).trans W', S'⟩
 | some sz=>
  rw [hlo] at e1
  dsimp only at e1
  cases ha:s.ad with
  | none=>obtain ⟨rfl, _⟩:=hs.none_ad ha; cases hlo
  | some a=>
  obtain ⟨hok, b, c, rfl, hb, hle, hcc, hcl⟩:=hs.row ha
  rw [hlo] at hcl
  dsimp only at hcl
  cases hn0:Nat.beq n 0 with
  | true=>
   rw [hn0] at e1
   have hn0:=Nat.eq_of_beq_eq_true hn0
   subst hn0
   simp only [cond_true] at e1
   refine ⟨_, h, ι, _, w, e1, ?_, R, Went.refl X ι h w, hs⟩
   rw [yx h0 h1 hu hu1 hd hsize hl (hf w rfl) (by omega)]
   have hnl:news = []:=by
    have:news.length = 0:=by rw [← hm.length, hml, Nat.zero_mul]
    exact List.length_eq_zero_iff.1 this
   subst hnl
   rfl
  | false=>
   rw [hn0] at e1
   simp only [cond_false] at e1
   have hn0:n ≠ 0:=fun h=>by subst h; cases hn0
   obtain ⟨he, e2⟩:=zg e1
   obtain ⟨hbd, e3⟩:=zg e2
   clear e1 e2
   have he:=Nat.eq_of_beq_eq_true he
   subst he
   rw [ha] at e3
   dsimp only at e3
   obtain ⟨old, hrow, e4⟩:=zes e3
   clear e3
   cases hown:h.own a.id with
   | false=>rw [hown] at e4; cases e4
   | true=>
   rw [hown] at e4
   simp only [cond_true] at e4
   have hlo2:SlR ι (okOf h X) s (.slice (some b) s.len c):=hs
   by_cases hfit:s.len + n≤c
   ·have hb:=hb.resolve_left (by omega)
    obtain ⟨w', hrun, R', W'⟩:=R.grow hX P (n:=s.len * ei.size) hok.2 hown hrow hm hone (by
     have:(s.len + n) * ei.size≤c * ei.size:=Nat.mul_le_mul_right _ hfit
     rw [Nat.add_mul] at this
     rw [hml]; omega)
    refine ⟨_, _, _, .slice (some b) (s.len + n) c, w', e4, ?_, R', W', ?_⟩
    ·rw [yx h0 h1 hu hu1 hd hsize hl (hf w rfl) hfit, hb]
     dsimp only
     rw [zbl, hrun]; rfl
    ·refine ⟨⟨by show h.next < h.next + 1; omega, fun hx=>absurd (hX _ hx) (Nat.lt_irrefl _)⟩, b, c, rfl, .inr ?_, Nat.le_refl _, hfit, ?_⟩
     ·rw [hb]; simp [Ad.to, Io.set]
     ·simp [Io.set]; omega
   ·rw [Bool.and_eq_true] at hbd
    have hbb:0 < inf.bytes:=by rw [hby]; exact Nat.lt_of_succ_le (Nat.le_of_ble_eq_true hbd.1)
    have hbl:=Nat.le_of_ble_eq_true hbd.2
    have hns:=zam (s.len + n) c (by omega)
    rw [← hby] at hbl
    obtain ⟨old', olds, b', c', e5, hx, hov, hoo, hol, hof⟩:=zge (α:=List V) (out:=old) (P:=P) (K:=fun cs _=>some cs) R hs (by
     unfold rdSl
     rw [ha]
     dsimp only
     unfold zgr
     rw [hrow])
    cases e5
    have hr:=zax (P:=P) (w:=w) (ty:=ty) h0 h1 hu hu1 hd hi hz hl (by rw [hsz]; exact hf w.drew rfl) (by rw [hsz]; exact hof w.drew rfl) hfit (Nat.le_trans (Nat.mul_le_mul_right _ hns) hbl) (.inr (by omega))
    have hk:=R.kill hok.2
    obtain ⟨R', W', S'⟩:=app_new (h:=h.put a.id none) hk.1.drew hX (el:=el) hzs hov hm hoo hone hol hml (grownCap_ge w (s.len + n) c el)
    exact ⟨_, _, _, _, _, e4, hr, R', (hk.2.trans (Went.drew X ι _ w)).trans W', S'⟩
theorem zed {ok:Nat->Prop} {s:Sl} {x:Value} (hs:SlR ι ok s x):∃ b c, x = .slice b s.len c ∧ s.cap≤c ∧ (s.loose = none->c = s.cap):=by
 cases ha:s.ad with
 | none=>obtain ⟨rfl, rfl⟩:=hs.none_ad ha; exact ⟨_, _, rfl, Nat.le_refl _, fun _=>rfl⟩
 | some a=>
  obtain ⟨_, b, c, h1, _, _, h2, h3⟩:=hs.row ha
  exact ⟨_, _, h1, h2, fun hl=>by rw [hl] at h3; exact h3⟩
theorem HR.retell (R:HR T base w0 X ι h w) {i:Nat} {b b':Blk} (hx:¬ X i) (hg:h.get i = some b) (ho:b.own = true) (hb:BlkR ι (fun i=>i < h.next ∧ ¬ X i) base w (ι i) b') :
  HR T base w0 X ι (h.put i (some b')) w ∧ Went X ι h w ι (h.put i (some b')) w:=by
 have hget:∀ j c, (h.put i (some b')).get j = some c->(j = i ∧ c = b') ∨ (j ≠ i ∧ h.get j = some c):=by
  intro j c hc
  by_cases he:j = i
  ·subst he; rw [zh] at hc; exact .inl ⟨rfl, (Option.some.inj hc).symm⟩
  ·rw [zo h _ he] at hc; exact .inr ⟨he, hc⟩
 refine ⟨⟨R.size, R.old, fun j c hc=>?_, fun j c hxj hc=>?_, fun j k c d hxj hxk hc hd o1 o2 hcb=>?_, R.glob, R.env⟩,
  ⟨fun _ _=>rfl, Nat.le_refl _, fun j hxj=>zo h _ (fun e=>hx (e ▸ hxj)), Nat.le_refl _, fun _ _ _=>rfl, fun j c hxj hc hoc=>?_⟩⟩
 ·rcases hget j c hc with ⟨rfl, _⟩ | ⟨_, hc⟩
  ·exact R.dom _ _ hg
  ·exact R.dom _ _ hc
 ·rcases hget j c hc with ⟨rfl, rfl⟩ | ⟨_, hc⟩
  ·exact hb
  ·exact R.blk j c hxj hc
 ·rcases hget j c hc with ⟨e1, _⟩ | ⟨hj, hc2⟩ <;> rcases hget k d hd with ⟨e3, _⟩ | ⟨hk, hd2⟩
  ·rw [e1, e3]
  ·subst e1; exact R.inj _ _ _ _ hxj hxk hg hd2 ho o2 hcb
  ·subst e3; exact R.inj _ _ _ _ hxj hxk hc2 hg o1 ho hcb
  ·exact R.inj j k c d hxj hxk hc2 hd2 o1 o2 hcb
 ·rcases hget j c hc with ⟨rfl, rfl⟩ | ⟨_, hc⟩
  ·exact .inr ⟨_, _, hxj, hg, ho, rfl⟩
  ·exact .inr ⟨j, c, hxj, hc, hoc, rfl⟩
theorem HR.untype (R:HR T base w0 X ι h w) {i t:Nat} {f:Bool} {cs:List V} (hx:¬ X i) (hg:h.get i = some (.cellsT t f cs)) :
  HR T base w0 X ι (h.put i (some (.cells cs true))) w ∧ Went X ι h w ι (h.put i (some (.cells cs true))) w:=by
 obtain ⟨arr, h1, h2, h3, h4, h5, h6, h7⟩:=R.blk i _ hx hg
 refine R.retell hx hg rfl ⟨arr, t, 0, 0, h1, by rw [h2]; omega, by rw [h2, List.drop_zero]; exact h5, h6, fun _=>⟨h7, by rw [h2, h3]; omega, .inl rfl⟩, fun h=>by cases h⟩
theorem HR.totype (R:HR T base w0 X ι h w) {i t:Nat} {cs:List V} {arr:Array Value} (hx:¬ X i) (hg:h.get i = some (.cells cs true)) (hw:w.heap[(ι i).cb]? = some (.cells arr t (0, 0))) (hsh:(ι i).sh = 0) :
  HR T base w0 X ι (h.put i (some (.cellsT t false cs))) w ∧ Went X ι h w ι (h.put i (some (.cellsT t false cs))) w:=by
 obtain ⟨arr', el, lo, hi, h1, h2, h3, h4, h5, _⟩:=R.blk i _ hx hg
 rw [hw] at h1
 cases h1
 obtain ⟨h6, h7, _⟩:=h5 rfl
 rw [hsh] at h2 h3 h7
 exact R.retell hx hg rfl ⟨arr, hw, hsh, by omega, ⟨by omega, fun h=>by cases h⟩, by rw [List.drop_zero] at h3; exact h3, h4, h6⟩
theorem HR.drop (R:HR T base w0 X ι h w) {i:Nat} {b:Blk} {w':World} (hx:¬ X i) (hg:h.get i = some b) (ho:b.own = true) (hs:w'.heap.size = w.heap.size)
  (hw:∀ c, c ≠ (ι i).cb->w'.heap[c]? = w.heap[c]?) (hb:base≤(ι i).cb) (he:w'.os = w.os ∧ w'.tape = w.tape ∧ w'.output = w.output) :
  HR T base w0 X ι (h.put i none) w' ∧ Went X ι h w ι (h.put i none) w':=by
 have hget:∀ j c, (h.put i none).get j = some c->j ≠ i ∧ h.get j = some c:=by
  intro j c hc
  by_cases he:j = i
  ·subst he; rw [zh] at hc; cases hc
  ·rw [zo h _ he] at hc; exact ⟨he, hc⟩
 refine ⟨⟨by rw [hs]; exact R.size, fun c hc=>by rw [hw c (by omega)]; exact R.old c hc, fun j c hc=>R.dom _ _ (hget j c hc).2, fun j c hxj hc=>?_, fun j k c d hxj hxk hc hd o1 o2 hcb=>R.inj _ _ _ _ hxj hxk (hget j c hc).2 (hget k d hd).2 o1 o2 hcb, R.glob, by rw [he.1, he.2.1, he.2.2]; exact R.env⟩,
  ⟨fun _ _=>rfl, Nat.le_refl _, fun j hxj=>zo h _ (fun e=>hx (e ▸ hxj)), by rw [hs]; exact Nat.le_refl _, fun c _ hn=>hw c (fun e=>hn i b hx hg ho e.symm), fun j c hxj hc hoc=>.inr ⟨j, c, hxj, (hget j c hc).2, hoc, rfl⟩⟩⟩
 obtain ⟨hj, hc⟩:=hget j c hc
 refine (R.blk j c hxj hc).mono (fun _ _=>rfl) (fun _ h=>h) (hw _ fun hcb=>?_)
 cases c with
 | cells cs own=>
  cases own with
  | true=>exact hj (R.inj j i _ _ hxj hx hc hg rfl ho hcb)
  | false=>
   obtain ⟨_, _, _, _, _, _, _, _, _, hf⟩:=R.blk j _ hxj hc
   have:=hf rfl
   omega
 | cellsT _ _ _=>exact hj (R.inj j i _ _ hxj hx hc hg rfl ho hcb)
 | map es=>exact hj (R.inj j i _ _ hxj hx hc hg rfl ho hcb)
 | iter es=>exact hj (R.inj j i _ _ hxj hx hc hg rfl ho hcb)
theorem zlp (R:HR T base w0 X ι h w) (hX:∀ i, X i->i < h.next) {n len c:Nat} {el:TypeId} {old more:List V} {olds news:List Value} {z:Array Value} (hz:z.size = 1)
  (h1:VRL ι (okOf h X) old olds) (h2:VRL ι (okOf h X) more news) (o1:old.all oneV = true) (o2:more.all oneV = true) (l1:old.length = len) (l2:more.length = n) (hc:len + n≤c) :
  let p:Pl:=⟨w.heap.size, 0, c⟩
  let w':=w.alloc (.cells (olds.toArray ++ news.toArray ++ Builtin.zeroCells z (c - (len + n))) el)
  HR T base w0 X (ι.set h.next p) (h.push (.cellsT el false (old ++ more))) w' ∧ Went X ι h w (ι.set h.next p) (h.push (.cellsT el false (old ++ more))) w' ∧
   SlR (ι.set h.next p) (okOf (h.push (.cellsT el false (old ++ more))) X) ⟨some ⟨h.next, 0⟩, len + n, len + n, some 1⟩ (.slice (some ⟨w.heap.size, 0, none⟩) (len + n) c):=by
 have hlen1:=h1.length
 have hlen2:=h2.length
 have hsz:(olds.toArray ++ news.toArray ++ Builtin.zeroCells z (c - (len + n))).size = c:=by
  simp only [Array.size_append, List.size_toArray, size_zeroCells, hz, ← hlen1, ← hlen2, l1, l2, Nat.mul_one]
  omega
 have hp:=R.push hX (o:=.cells (olds.toArray ++ news.toArray ++ Builtin.zeroCells z (c - (len + n))) el) (b:=.cellsT el false (old ++ more)) (p:=⟨w.heap.size, 0, c⟩) rfl
  ⟨_, by rw [yg]; simp, rfl, hsz.symm, ⟨by rw [hsz, List.length_append, l1, l2]; exact hc, fun h=>by cases h⟩, by
   simp only [Array.toList_append, List.length_append, hlen1, hlen2]
   rw [← List.length_append, List.take_left]
   exact VRL.mono (fun i hi=>by simp [Io.set, Nat.ne_of_lt hi.1]) (fun i hi=>⟨by have:=hi.1; omega, hi.2⟩) (h1.append h2), by rw [List.all_append, o1, o2]; rfl, R.size⟩
 refine ⟨hp.1, hp.2, ⟨by show h.next < h.next + 1; omega, fun hx=>absurd (hX _ hx) (Nat.lt_irrefl _)⟩, _, c, rfl, .inr (by simp [Ad.to, Io.set]), Nat.le_refl _, hc, by simp [Io.set]⟩
theorem appT_ok (hT:TabOk P T) (R:HR T base w0 X ι h w) (hX:∀ i, X i->i < h.next) {s:Sl} {b2:ByteArray} {K:Sl->M α} {x:Value}
  (hs:SlR ι (okOf h X) s x) {ats:Array TypeId} {ty t el t1:TypeId} {ei:TI} (h0:ats[0]? = some t) (h1:ats[1]? = some t1) (hu:P.underlying t = some (.slice el)) (hu1:P.underlying t1 = some .string)
  (hei:T.ti el = some ei) (hes:ei.size = 1) (heb:ei.bytes = 1) (e:zgo el s b2.data.toList K h = some out) :
  ∃ s' h' ι' x' w', K s' h' = some out ∧ (Builtin.append_ ats ty #[x, .string b2]).run P w = .ok x' w' ∧ HR T base w0 X ι' h' w' ∧ Went X ι h w ι' h' w' ∧ SlR ι' (okOf h' X) s' x':=by
 have EI:=hT.ti _ _ hei
 obtain ⟨inf, z, hi, hsz, hby, hz, hzv, _⟩:=EI.info
 rw [hes] at hsz
 rw [heb] at hby
 have hzs:z.cells.size = 1:=by
  have:=(hzv ι (okOf h X)).length
  rw [EI.zl, hes] at this
  simpa using this.symm
 have hsize:=EI.run_size (w:=w)
 rw [hes] at hsize
 have hl:(Builtin.lenOf (.string b2)).run P w = .ok b2.data.toList.length w:=by simp [Builtin.lenOf]
 have hf:∀ w':World, (Builtin.firstCells 1 b2.data.toList.length (.string b2)).run P w' = .ok (b2.data.map fun c=>Value.int .u8 c.toNat).toList.toArray w':=by
  intro w'
  simp only [Builtin.firstCells, Sem.run_pure]
  congr 2
  have:b2.data.toList.length = b2.size:=Array.length_toList
  rw [this]
  simp [ByteArray.extract_zero_size]
 have hm:=zgs (ι:=ι) b2 (okOf h X)
 have hml:(yn b2.data.toList).length = b2.data.toList.length:=by simp [yn]
 unfold zgo at e
 have hnw:=hm.length
 rw [hml] at hnw
 have hmo:=zdf b2.data.toList
 generalize (b2.data.map fun c=>Value.int .u8 c.toNat).toList = news at hf hm hnw
 generalize yn b2.data.toList = more at e hm hml hmo
 generalize b2.data.toList.length = n at e hl hf hml hnw
 have hle:∀ a, s.ad = some a->s.len≤s.cap:=fun a ha=>by obtain ⟨_, _, _, _, _, h, _⟩:=hs.row ha; exact h
 have hle':s.len≤s.cap:=by
  cases ha:s.ad with
  | none=>obtain ⟨rfl, _⟩:=hs.none_ad ha; exact Nat.le_refl _
  | some a=>exact hle a ha
 cases hn0:Nat.beq n 0 with
 | true=>
  rw [hn0] at e
  have hn0:=Nat.eq_of_beq_eq_true hn0
  subst hn0
  simp only [cond_true] at e
  obtain ⟨b, c, rfl, hcc, _⟩:=zed hs
  have hnl:news = []:=List.length_eq_zero_iff.1 hnw.symm
  subst hnl
  refine ⟨_, h, ι, _, w, e, ?_, R, Went.refl X ι h w, hs⟩
  rw [yx h0 h1 hu hu1 (.inr rfl) hsize hl (hf w) (by omega)]
  cases b <;> rfl
 | false=>
  rw [hn0] at e
  have hn1:n ≠ 0:=fun h=>by subst h; cases hn0
  simp only [cond_false] at e
  cases hbd:Nat.ble (s.len + n + (s.len + n) / 4 + 512) 281474976710656 with
  | false=>rw [hbd] at e; cases e
  | true=>
  rw [hbd] at e
  simp only [cond_true] at e
  have hbl:=Nat.le_of_ble_eq_true hbd
  have hbb:inf.bytes ≠ 0:=by omega
  cases ha:s.ad with
  | none=>
   rw [ha] at e
   dsimp only at e
   obtain ⟨rfl, rfl⟩:=hs.none_ad ha
   have hns:=zam (0 + n) 0 (by omega)
   have hr:=zax (P:=P) (w:=w) (ty:=ty) (b:=none) (l:=0) (c:=0) (olds:=[]) h0 h1 hu hu1 (.inr rfl) hi hz hl (by rw [hsz]; exact hf w.drew) rfl (by omega) (by rw [hby, Nat.mul_one]; have:Sl.nil.len = 0:=rfl; omega) (.inr hbb)
   obtain ⟨R', W', S'⟩:=zlp (old:=[]) (olds:=[]) (len:=0) R.drew hX (el:=el) hzs trivial hm rfl hmo rfl hml (grownCap_ge w (0 + n) 0 el)
   exact ⟨_, _, _, _, _, e, hr, R', (Went.drew X ι h w).trans W', S'⟩
  | some a=>
   rw [ha] at e
   dsimp only at e
   split at e
   ·rename_i t' cs hg
    cases hcd:(Nat.beq t' el && (Nat.beq a.off 0 && (Nat.beq cs.length s.len && decide (s.loose = some 1)))) with
    | false=>rw [hcd] at e; cases e
    | true=>
    rw [hcd] at e
    simp only [cond_true] at e
    simp only [Bool.and_eq_true, decide_eq_true_eq] at hcd
    obtain ⟨c1, c2, c3, c4⟩:=hcd
    have c1:=Nat.eq_of_beq_eq_true c1
    have c2:=Nat.eq_of_beq_eq_true c2
    have c3:=Nat.eq_of_beq_eq_true c3
    subst c1
    obtain ⟨hok, b, c, rfl, hb, _, hcc, hcl⟩:=hs.row ha
    rw [c4] at hcl
    dsimp only at hcl
    obtain ⟨arr, g1, g2, g3, ⟨g4, _⟩, g5, g6, g7⟩:=R.blk a.id _ hok.2 hg
    have hto:a.to ι = ⟨(ι a.id).cb, 0, none⟩:=by simp [Ad.to, g2, c2]
    by_cases hfit:s.len + n≤c
    ·have hb:=hb.resolve_left (by omega)
     obtain ⟨Ru, Wu⟩:=R.untype hok.2 hg
     have hrow:(h.put a.id (some (.cells cs true))).row a s.len = some cs:=by
      unfold H.row
      rw [zh]
      dsimp only
      rw [c2, Nat.zero_add, Nat.ble_eq_true_of_le (by omega:s.len≤cs.length)]
      simp [← c3]
     obtain ⟨w', hrun, Rg, Wg⟩:=Ru.grow hX P (a:=a) (n:=s.len) hok.2 (by unfold H.own; rw [zh]) hrow hm hmo (by rw [hml]; omega)
     rw [jg] at Rg Wg
     have hnx:(h.put a.id (some (.cells cs true))).next = h.next:=rfl
     rw [hnx] at Rg Wg
     obtain ⟨w'', arr', hrun', q1, _⟩:=zan P news (0 + s.len) 0 w arr g1 (by rw [← hnw]; omega) (fun j _ _=>by omega) (fun x hx=>by
      obtain ⟨i, hi⟩:=List.mem_iff_getElem?.1 hx
      have hil:i < more.length:=by
       rw [hm.length]
       rcases Nat.lt_or_ge i news.length with h1 | h1
       ·exact h1
       ·rw [List.getElem?_eq_none h1] at hi; cases hi
      obtain ⟨y, hy, hr⟩:=hm.get (List.getElem?_eq_getElem hil)
      rw [hi] at hy; cases hy
      exact hr.oneCell (List.all_eq_true.1 hmo _ (List.getElem_mem hil)))
     have hadd:(a.add s.len).to ι = ⟨(ι a.id).cb, 0 + s.len, none⟩:=by simp [Ad.to, Ad.add, g2, c2]
     rw [hadd, hrun'] at hrun
     have hww:w'' = w':=by injection hrun
     subst hww
     obtain ⟨Rt, Wt⟩:=Rg.totype (i:=h.next) (t:=t') (cs:=cs ++ more) (arr:=arr') (fun hx=>absurd (hX _ hx) (Nat.lt_irrefl _)) (je (h.put a.id none) _) (by simp [Io.set, q1]) (by simp [Io.set, g2, c2])
     have hpp:((h.put a.id none).push (.cells (cs ++ more) true)).put h.next (some (.cellsT t' false (cs ++ more))) = (h.put a.id none).push (.cellsT t' false (cs ++ more)):=put_push9 (h.put a.id none) _ _
     rw [hpp] at Rt Wt
     refine ⟨_, _, _, .slice (some b) (s.len + n) c, w'', e, ?_, Rt, (Wu.trans Wg).trans Wt, ?_⟩
     ·rw [yx h0 h1 hu hu1 (.inr rfl) hsize hl (hf w) hfit, hb]
      dsimp only
      rw [Nat.mul_one, zbl, hadd, hrun']; rfl
     ·refine ⟨⟨by show h.next < h.next + 1; omega, fun hx=>absurd (hX _ hx) (Nat.lt_irrefl _)⟩, b, c, rfl, .inr ?_, Nat.le_refl _, hfit, ?_⟩
      ·rw [hb]; simp [Ad.to, Io.set]
      ·simp [Io.set]; omega
    ·have hns:=zam (s.len + n) c (by omega)
     have hlen5:=g5.length
     have hof:(Builtin.firstCells 1 s.len (.slice (some b) s.len c)).run P w.drew = .ok (arr.toList.take cs.length).toArray w.drew:=by
      simp only [Builtin.firstCells]
      rcases hb with hb | hb
      ·have:s.len = 0:=by omega
       rw [c3, this]; rfl
      ·rw [hb, hto]
       have h1:=run_loadCells (P:=P) w.drew ⟨(ι a.id).cb, 0, none⟩ (s.len * 1) (fun j=>(arr[j]?).getD default) (fun j hj=>by
        have hlt:j < arr.size:=by omega
        have:(⟨(ι a.id).cb, 0, none⟩:Addr).add j = ⟨(ι a.id).cb, j, none⟩:=by
         unfold Addr.add
         split
         ·rename_i h; rw [h]
         ·simp
        rw [this]
        have g1':w.drew.heap[(ι a.id).cb]? = some (.cells arr t' (0, 0)):=g1
        simp [World.cell?, g1', hlt])
       have hle2:(List.range (s.len * 1)).map (fun j=>(arr[j]?).getD default) = arr.toList.take cs.length:=by
        apply List.ext_getElem?
        intro j
        simp only [List.getElem?_map, List.getElem?_take]
        by_cases hj:j < s.len * 1
        ·rw [List.getElem?_range hj, if_pos (by omega)]
         have hlt':j < arr.size:=by omega
         rw [Array.getElem?_toList, Option.map_some, Array.getElem?_eq_getElem hlt']; rfl
        ·rw [if_neg (by omega), List.getElem?_eq_none (by simpa using hj)]; rfl
       rw [Nat.mul_one] at h1 hle2
       rw [Nat.mul_one, h1, hle2]
     have hr:=zax (P:=P) (w:=w) (ty:=ty) (b:=some b) (l:=s.len) (c:=c) h0 h1 hu hu1 (.inr rfl) hi hz hl (by rw [hsz]; exact hf w.drew) (by rw [hsz]; exact hof) hfit (by rw [hby, Nat.mul_one]; omega) (.inr hbb)
     have hk:=R.kill hok.2
     obtain ⟨R', W', S'⟩:=zlp (h:=h.put a.id none) hk.1.drew hX (el:=t') hzs g5 hm g6 hmo c3 hml (grownCap_ge w (s.len + n) c t')
     exact ⟨_, _, _, _, _, e, hr, R', (hk.2.trans (Went.drew X ι _ w)).trans W', S'⟩
   ·cases e
theorem SlR.short {ok:Nat->Prop} {s:Sl} {b:Option Addr} {l c:Nat} (hs:SlR ι ok s (.slice b l c)) (m:Nat) (hm:m≤s.len):SlR ι ok { s with len:=m } (.slice b m c):=by
 unfold SlR at *
 cases ha:s.ad with
 | none=>
  rw [ha] at hs
  obtain ⟨rfl, h⟩:=hs
  cases h
  have:m = 0:=by simpa [Sl.nil] using hm
  subst this
  exact ⟨rfl, rfl⟩
 | some a=>
  rw [ha] at hs
  obtain ⟨h1, b', c', h2, h3, h4, h5⟩:=hs
  cases h2
  exact ⟨h1, _, c, rfl, h3, Nat.le_trans hm h4, h5⟩
theorem wr_ok (R:HR T base w0 X ι h w) {a:Ad} {vs:List V} {xs:List Value} {K:M α} {b:Addr} {c:Nat} (ha:¬ X a.id) (hb:c = 0 ∨ b = a.to ι) (hz:c = 0->xs = [])
  (hv:VRL ι (okOf h X) vs xs) (hone:vs.all oneV = true) (e:zdc a vs K h = some out) :
  ∃ h' w', K h' = some out ∧ (storeCells b xs).run P w = .ok () w' ∧ HR T base w0 X ι h' w' ∧ Went X ι h w ι h' w':=by
 unfold zdc at e
 cases hw:h.setRow a vs with
 | none=>rw [hw] at e; cases e
 | some h'=>
  rw [hw] at e
  dsimp only at e
  obtain ⟨w', hrun, R', W', _⟩:=R.setRow P ha hv hone hw
  refine ⟨h', w', e, ?_, R', W'⟩
  rcases hb with hb | hb
  ·have:=hz hb
   subst this
   exact hrun
  ·rw [hb]; exact hrun
theorem zmw (hT:TabOk P T) (R:HR T base w0 X ι h w) (hX:∀ i, X i->i < h.next) {b:Builtin} {ats:Array TypeId} {ty:TypeId} {cs:Array Bool} {vs:List V} {xs:List Value}
  (hv:VRL ι (okOf h X) vs xs) {K:V->M α} (e:Ab.builtin T b ats vs K h = some out) :
  ∃ v h' ι' x w', K v h' = some out ∧ (Go.builtin b ats ty cs xs.toArray).run P w = .ok (.value x) w' ∧ HR T base w0 X ι' h' w' ∧ Went X ι h w ι' h' w' ∧ VR ι' (okOf h' X) v x:=by
 have pure:∀ {v:V} {x:Value}, K v h = some out->(Go.builtin b ats ty cs xs.toArray).run P w = .ok (.value x) w->VR ι (okOf h X) v x ->
   ∃ v h' ι' x w', K v h' = some out ∧ (Go.builtin b ats ty cs xs.toArray).run P w = .ok (.value x) w' ∧ HR T base w0 X ι' h' w' ∧ Went X ι h w ι' h' w' ∧ VR ι' (okOf h' X) v x:=
  fun e hr hv=>⟨_, h, ι, _, w, e, hr, R, Went.refl X ι h w, hv⟩
 cases b <;> first | (cases e; done) | skip
 case append=>
  match vs, xs, hv with
  | [.slice s, .str y], [xs1, xs2], hv=>
   obtain ⟨h1, ⟨b2, rfl, rfl⟩, _⟩:=hv
   simp only [Ab.builtin] at e
   obtain ⟨hk, e⟩:=zg e
   obtain ⟨t1, i1, ht1, I1, hs1, _, _⟩:=zbg hT hk (by decide)
   cases ht:ats[0]? with
   | none=>rw [ht] at e; cases e
   | some t=>
   rw [ht] at e
   dsimp only at e
   cases hi:T.ti t with
   | none=>rw [hi] at e; cases e
   | some i=>
   rw [hi] at e
   have I:=(hT.ti _ _ hi).und
   obtain ⟨und, a1, a2, a3, a4, a5, a6⟩:=i
   cases und with
   | slice el=>
    dsimp only at e I
    cases hj:T.ti el with
    | none=>rw [hj] at e; cases e
    | some ei=>
    rw [hj] at e
    dsimp only at e
    obtain ⟨hb, e⟩:=zg e
    rw [Bool.and_eq_true] at hb
    have hb1:=Nat.eq_of_beq_eq_true hb.1
    have hb2:=Nat.eq_of_beq_eq_true hb.2
    cases hsp:T.spec el with
    | false=>
     rw [hsp] at e
     simp only [cond_false] at e
     unfold appStr at e
     have e':zbo s ei.size ei.bytes b2.data.toList.length (yn b2.data.toList) (fun s=>K (.slice s)) h = some out:=by rw [hb1, hb2]; exact e
     obtain ⟨s', h', ι', x', w', e2, hr, R', W', S'⟩:=app_ok (ty:=ty) hT R hX (n:=b2.data.toList.length) (src:=.string b2) (news:=(b2.data.map fun c=>Value.int .u8 c.toNat).toList)
      h1 ht ht1 I I1.und (.inr (hs1 rfl)) hj (by simp [Builtin.lenOf]) (fun w' _=>by
       simp only [Builtin.firstCells, Sem.run_pure]
       congr 2
       have:b2.data.toList.length = b2.size:=Array.length_toList
       rw [this]
       simp [ByteArray.extract_zero_size]) (zgs b2 _) (zdf _) e'
     exact ⟨_, h', ι', x', w', e2, by simp [Go.builtin, hr], R', W', S'⟩
    | true=>
     rw [hsp] at e
     have e:zgo el s b2.data.toList (fun s=>K (.slice s)) h = some out:=e
     obtain ⟨s', h', ι', x', w', e2, hr, R', W', S'⟩:=appT_ok (ty:=ty) hT R hX h1 ht ht1 I (I1.und.trans (congrArg some (hs1 rfl))) hj hb1 hb2 e
     exact ⟨_, h', ι', x', w', e2, by simp [Go.builtin, hr], R', W', S'⟩
   | _=>cases e
  | [.slice s, .slice y], [xs1, xs2], hv=>
   obtain ⟨h1, h2, _⟩:=hv
   simp only [Ab.builtin] at e
   obtain ⟨hk, e⟩:=zg e
   obtain ⟨t1, i1, ht1, I1, _, hs1, _⟩:=zbg hT hk (by decide)
   cases ht:ats[0]? with
   | none=>rw [ht] at e; cases e
   | some t=>
   rw [ht] at e
   dsimp only at e
   cases hi:T.ti t with
   | none=>rw [hi] at e; cases e
   | some i=>
   rw [hi] at e
   have I:=(hT.ti _ _ hi).und
   obtain ⟨und, a1, a2, a3, a4, a5, a6⟩:=i
   cases und with
   | slice el=>
    dsimp only at e I
    cases hj:T.ti el with
    | none=>rw [hj] at e; cases e
    | some ei=>
    rw [hj] at e
    dsimp only at e
    unfold yr at e
    obtain ⟨more, news, b, c, e1, hx, hm, hone, hlen, hf⟩:=zge (P:=P) R h2 e
    obtain ⟨s', h', ι', x', w', e2, hr, R', W', S'⟩:=app_ok (ty:=ty) hT R hX (n:=y.len) (src:=xs2) (news:=news)
     h1 ht ht1 I I1.und (.inl (hs1 rfl)) hj (by rw [hx]; rfl) hf hm hone e1
    exact ⟨_, h', ι', x', w', e2, by simp [Go.builtin, hr], R', W', S'⟩
   | _=>cases e
 case cap=>
  match vs, xs, hv with
  | [.slice s], [x1], hv=>
   obtain ⟨h1, _⟩:=hv
   simp only [Ab.builtin] at e
   obtain ⟨hk, e⟩:=zg e
   obtain ⟨hl, e⟩:=zg e
   obtain ⟨t1, i1, ht1, I1, _, hs1, _⟩:=zbg hT hk (by decide)
   obtain ⟨el, hel⟩:=hs1 rfl
   have hu:=I1.und
   rw [hel] at hu
   obtain ⟨b, c, rfl, _, hc⟩:=zed h1
   have:=hc (by cases hq:s.loose with | none=>rfl | some _=>rw [hq] at hl; cases hl)
   subst this
   exact pure e (by simp [Go.builtin, Builtin.cap_, ht1, run_underlying hu, goInt]) rfl
 case clear=>
  match vs, xs, hv with
  | [.slice s], [x1], hv=>
   obtain ⟨h1, _⟩:=hv
   simp only [Ab.builtin] at e
   cases ht:ats[0]? with
   | none=>rw [ht] at e; cases e
   | some t=>
   rw [ht] at e
   dsimp only at e
   cases hi:T.ti t with
   | none=>rw [hi] at e; cases e
   | some i=>
   rw [hi] at e
   have I:=(hT.ti _ _ hi).und
   obtain ⟨und, a1, a2, a3, a4, a5, a6⟩:=i
   cases und with
   | slice el=>
    dsimp only at e I
    cases hj:T.ti el with
    | none=>rw [hj] at e; cases e
    | some ei=>
    rw [hj] at e
    dsimp only at e
    unfold clearSl at e
    cases ha:s.ad with
    | none=>
     rw [ha] at e
     obtain ⟨rfl, rfl⟩:=h1.none_ad ha
     exact pure (x:=.tuple #[]) e (by simp [Go.builtin, Builtin.clear_, ht, run_underlying I]) ⟨#[], rfl, trivial⟩
    | some a=>
     rw [ha] at e
     dsimp only at e
     obtain ⟨hone, e⟩:=zg e
     obtain ⟨hok, b, c, rfl, hb, hle, hcc, hcl⟩:=h1.row ha
     have EI:=hT.ti _ _ hj
     obtain ⟨z, hz, hzv, _⟩:=EI.run_zero (w:=w)
     have hr:=zdi (ι:=ι) (hzv ι (okOf h X)) s.len
     obtain ⟨h', w', e2, hrun, R', W'⟩:=wr_ok (P:=P) R (xs:=(Builtin.zeroCells z.cells s.len).toList) hok.2 hb (fun hc=>by
      have:s.len = 0:=by omega
      rw [this]; simp [Builtin.zeroCells]) hr (zkd hone) e
     refine ⟨_, h', ι, .tuple #[], w', e2, ?_, R', W', ⟨_, rfl, trivial⟩⟩
     by_cases h0:s.len = 0
     ·rw [h0] at hrun ⊢
      have hrun':(Result.ok () w:Result Unit) = .ok () w':=by simpa [Builtin.zeroCells, storeCells] using hrun
      cases hrun'
      simp [Go.builtin, Builtin.clear_, ht, run_underlying I]
     ·obtain ⟨n, hn⟩:∃ n, s.len = n + 1:=⟨s.len - 1, by omega⟩
      rw [hn] at hrun ⊢
      simp [Go.builtin, Builtin.clear_, ht, run_underlying I, hz, hrun]
   | _=>cases e
 case copy=>
  match vs, xs, hv with
  | [.slice d, .slice y], [x1, x2], hv=>
   obtain ⟨h1, h2, _⟩:=hv
   simp only [Ab.builtin] at e
   cases ht:ats[0]? with
   | none=>rw [ht] at e; cases e
   | some t=>
   rw [ht] at e
   dsimp only at e
   cases hi:T.ti t with
   | none=>rw [hi] at e; cases e
   | some i=>
   rw [hi] at e
   have I:=(hT.ti _ _ hi).und
   obtain ⟨und, a1, a2, a3, a4, a5, a6⟩:=i
   cases und with
   | slice el=>
    dsimp only at e I
    cases hj:T.ti el with
    | none=>rw [hj] at e; cases e
    | some ei=>
    rw [hj] at e
    dsimp only at e
    have EI:=hT.ti _ _ hj
    unfold zds at e
    obtain ⟨b2, c2, rfl, _, _⟩:=zed h2
    have h2':=SlR.short h2 (min y.len d.len) (Nat.min_le_left _ _)
    obtain ⟨more, news, b, c, e1, hx, hm, hone, hlen, hf⟩:=zge (P:=P) R h2' e
    have hf':(Builtin.firstCells ei.size (Nat.min y.len d.len) (.slice b2 y.len c2)).run P w = .ok news.toArray w:=by
     have:=hf w rfl
     cases b2 <;> exact this
    have hcast:((Nat.min y.len d.len:Nat):Int) = min (y.len:Int) (d.len:Int):=by
     show ((min y.len d.len:Nat):Int) = _
     omega
    cases ha:d.ad with
    | none=>
     rw [ha] at e1
     obtain ⟨rfl, rfl⟩:=h1.none_ad ha
     refine pure e1 ?_ rfl
     have hf2:(Builtin.firstCells ei.size 0 (.slice b2 y.len c2)).run P w = .ok news.toArray w:=by
      have:y.len.min Sl.nil.len = 0:=Nat.min_zero _
      rwa [this] at hf'
     have hm0:min (y.len:Int) (Sl.nil.len:Int) = 0:=by simp [Sl.nil]; omega
     simp [Go.builtin, Builtin.copy_, ht, run_underlying I, Builtin.lenOf, EI.run_size, hf2, goInt, hm0]
    | some a=>
     rw [ha] at e1
     dsimp only at e1
     obtain ⟨hok, b', c', rfl, hb, hle, hcc, hcl⟩:=h1.row ha
     obtain ⟨h', w', e2, hrun, R', W'⟩:=wr_ok (P:=P) R (xs:=news) hok.2 hb (fun hc=>by
      have h0:d.len = 0:=by omega
      have h3:news.length = 0:=by rw [← hm.length, hlen]; simp [h0]
      exact List.length_eq_zero_iff.1 h3) hm hone e1
     refine ⟨_, h', ι, _, w', e2, ?_, R', W', rfl⟩
     simp [Go.builtin, Builtin.copy_, ht, run_underlying I, Builtin.lenOf, EI.run_size, hf', hrun, goInt, hcast]
   | _=>cases e
 case len=>
  match vs, xs, hv with
  | [.str y], [x1], hv=>
   obtain ⟨⟨b, rfl, rfl⟩, _⟩:=hv
   simp only [Ab.builtin] at e
   obtain ⟨hk, e⟩:=zg e
   obtain ⟨t1, i1, ht1, I1, hs1, _, _⟩:=zbg hT hk (by decide)
   have hu:=I1.und
   rw [hs1 rfl] at hu
   have hlen:b.data.toList.length = b.size:=Array.length_toList
   exact pure e (by simp [Go.builtin, Builtin.len_, ht1, run_underlying hu, goInt]; rfl) (by rw [hlen]; rfl)
  | [.slice s], [x1], hv=>
   obtain ⟨h1, _⟩:=hv
   simp only [Ab.builtin] at e
   obtain ⟨hk, e⟩:=zg e
   obtain ⟨t1, i1, ht1, I1, _, hs1, _⟩:=zbg hT hk (by decide)
   obtain ⟨el, hel⟩:=hs1 rfl
   have hu:=I1.und
   rw [hel] at hu
   obtain ⟨b, c, rfl, _, hc⟩:=zed h1
   exact pure e (by simp [Go.builtin, Builtin.len_, ht1, run_underlying hu, goInt]) rfl
  | [.map r], [x1], hv=>
   obtain ⟨h1, _⟩:=hv
   simp only [Ab.builtin] at e
   obtain ⟨hk, e⟩:=zg e
   obtain ⟨t1, i1, ht1, I1, _, _, hs1⟩:=zbg hT hk (by decide)
   obtain ⟨k, el, hel⟩:=hs1 rfl
   have hu:=I1.und
   rw [hel] at hu
   rcases zdq e with ⟨rfl, e⟩ | ⟨i, es, rfl, hg, e⟩
   ·have h1:x1 = .map none:=h1
    subst h1
    exact pure e (by simp [Go.builtin, Builtin.len_, ht1, run_underlying hu, goInt]) rfl
   ·obtain ⟨hok, rfl⟩:=h1
    obtain ⟨ces, clock, hh, _, g1, _⟩:=R.blk i _ hok.2 hg
    have hl:es.length = ces.size:=by simpa using g1.length
    exact pure e (by simp [Go.builtin, Builtin.len_, ht1, run_underlying hu, MapKept.run_getObj_map hh, goInt]; rfl) (by rw [hl]; rfl)
 case max=>
  match vs, xs, hv with
  | [.int j a, .int k b], [x1, x2], hv=>
   obtain ⟨rfl, rfl, _⟩:=hv
   simp only [Ab.builtin] at e
   obtain ⟨hk, e⟩:=zg e
   exact pure e (by simp [Go.builtin, Builtin.max_, Builtin.max2]) rfl
 case min=>
  match vs, xs, hv with
  | [.int j a, .int k b], [x1, x2], hv=>
   obtain ⟨rfl, rfl, _⟩:=hv
   simp only [Ab.builtin] at e
   obtain ⟨hk, e⟩:=zg e
   exact pure e (by simp [Go.builtin, Builtin.min_, Builtin.min2]) rfl
theorem znd (hT:TabOk P T) (R:HR T base w0 X ι h w) (hX:∀ i, X i->i < h.next) (hρ:∀ x, VR ι (okOf h X) (ev T ρ x) (ρ' x)) {c:Go.Call} {b:Builtin} (hc:c.callee = .builtin b) (ho:o.op = .call c)
  (e:zi T call ρ o K E h = some out):zr P T base w0 X call ι h w o ρ' K E out:=by
 simp only [zi, ho, hc] at e
 obtain ⟨v, h', ι', x', w', e2, hr, R', W', hv⟩:=zmw (ty:=o.type) (cs:=c.args.map fun | .const _=>true | _=>false) hT R hX (VRL.map hρ _) e
 refine .inl ⟨v, h', ι', x', w', e2, .inl ?_, R', W', hv⟩
 have he:(c.args.toList.map ρ').toArray = c.args.map ρ':=Array.ext' (by simp)
 rw [he] at hr
 simp only [execOp, ho, Sem.run_bind, resolve, hc, Sem.run_pure, Result.andThen_ok, invoke]
 exact hr
theorem ziv (hα:isNx o.op = true->Subsingleton α) (hT:TabOk P T) (R:HR T base w0 X ι h w) (hX:∀ i, X i->i < h.next) (hρ:∀ x, VR ι (okOf h X) (ev T ρ x) (ρ' x))
  (e:zi T call ρ o K E h = some out):zr P T base w0 X call ι h w o ρ' K E out:=by
 have dead:(fail:M α) h = some out->zr P T base w0 X call ι h w o ρ' K E out:=fun e=>by cases e
 cases ho:o.op with
 | move x=>exact op_move R hρ (.inl ho) e
 | assign x=>exact op_move R hρ (.inr ho) e
 | pick c a b=>exact op_pick R hρ ho e
 | alloc t=>exact op_alloc hT R hX ho e
 | box t v=>exact op_box R hX hρ ho e
 | build t ps=>exact op_build hT R hρ ho e
 | buildSlice t n ps=>exact zia hT R hX hρ ho e
 | load t a=>exact op_load hT R hρ ho e
 | store t a v=>exact op_store hT R hρ ho e
 | nilCheck x=>exact zlh R hρ ho e
 | binOp op t x y ty=>exact op_binOp hT R hρ ho e
 | unOp op t x=>exact op_unOp R hρ ho e
 | convert s d x=>exact zms hT R hX hρ ho e
 | makeInterface t x=>exact zev hT R hρ ho e
 | makeFunc f a b=>
  cases f with
  | func f=>exact zme R hρ ho e
  | _=>simp only [zi, ho] at e; exact dead e
 | makeMap t r=>
  cases r with
  | none=>exact zmn R hX ho e
  | some r=>simp only [zi, ho] at e; exact dead e
 | makeSlice t l c=>exact zkc hT R hX hρ ho e
 | slice t x lo hi mx=>exact op_slice hT R hρ ho e
 | fieldAddr t x i=>exact zkh hT R hρ ho e
 | field t x i=>exact op_field hT R hρ ho e
 | indexAddr t x i=>exact zjm hT R hρ ho e
 | index t x i=>exact op_index hT R hρ ho e
 | lookup t x k ok=>exact op_lookup hT R hρ ho e
 | mapUpdate t m k v=>exact zjl hT R hρ ho e
 | typeAssert x xt t ok=>
  cases ok with
  | true=>exact zib hT R hρ ho e
  | false=>simp only [zi, ho] at e; exact dead e
 | extract t i=>exact zna R hρ ho e
 | range t x=>exact op_range hT R hX hρ ho e
 | next it b=>exact op_next (hα (by rw [ho]; rfl)) R hρ ho e
 | entry it=>exact op_entry R hρ ho e
 | panic x=>exact op_panic R hρ ho e
 | call c=>
  cases hc:c.callee with
  | value f=>exact zjv R hρ hc ho e
  | builtin b=>exact znd hT R hX hρ hc ho e
  | invoke r n=>simp only [zi, ho, hc] at e; exact dead e
 | _=>simp only [zi, ho] at e; exact dead e
end ops
end Go.Ab
