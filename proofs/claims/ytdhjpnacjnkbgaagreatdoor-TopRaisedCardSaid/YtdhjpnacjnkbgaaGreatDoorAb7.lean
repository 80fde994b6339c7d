import Derived.Test.YtdhjpnacjnkbgaaGreatDoorAb6
import Derived.Laws.IdiomStrings
set_option linter.unusedVariables false
set_option linter.unusedSimpArgs false
set_option linter.unusedSectionVars false
namespace Go.Ab
section ops
variable {α:Type} {P:Program} {T:Tab} {base:Nat} {w0:World} {X:Nat->Prop} {ι:Io} {h:H} {w:World} {call:Call α} {o:Oper} {ρ:Frame}
 {ρ':Operand->Value} {K E:V->M α} {out:α}
theorem zgd {x:Int} {y:Nat} {K:Nat->M α} (e:bnd x y K h = some out):∃ n:Nat, x = n ∧ n≤y ∧ K n h = some out:=by
 unfold bnd at e
 obtain ⟨h1, e⟩:=zg e
 obtain ⟨h2, e⟩:=zg e
 have h1:=of_decide_eq_true h1
 have h2:=of_decide_eq_true h2
 exact ⟨x.toNat, by omega, by omega, e⟩
theorem zim {k:IntKind} {n y:Nat} (c:BoundsCode) (hn:n≤y):(Instr.sliceBound (.int k (n:Int)) y c).run P w = .ok n w:=by
 have h1:(0:Int)≤(n:Int) ∧ (n:Int)≤(y:Int):=by omega
 simp only [Instr.sliceBound, asIntOf, Sem.run_bind, Sem.run_pure, Result.andThen_ok, if_pos h1, Int.toNat_natCast]
theorem oI_inv {x:Option Operand} {K:Option Int->M α} (hρ:∀ x, VR ι (okOf h X) (ev T ρ x) (ρ' x)) (e:oI T ρ x K h = some out) :
  (x = none ∧ K none h = some out) ∨ ∃ (y:Operand) (k:IntKind) (n:Int), x = some y ∧ ρ' y = .int k n ∧ K (some n) h = some out:=by
 unfold oI at e
 cases x with
 | none=>exact .inl ⟨rfl, e⟩
 | some y=>
  dsimp only at e
  have hy:=hρ y
  generalize ev T ρ y = u at e hy
  cases u with
  | int k n=>exact .inr ⟨y, k, n, rfl, hy, e⟩
  | _=>cases e
theorem zci {isSlice:Bool} {len cap l hN:Nat} {low high:Option Value} (hh:(high = none ∧ hN = len) ∨ (∃ k:IntKind, high = some (.int k (hN:Int)) ∧ hN≤cap))
  (hl:(low = none ∧ l = 0) ∨ (∃ k:IntKind, low = some (.int k (l:Int)) ∧ l≤hN)):(Instr.sliceBounds isSlice len cap low high none).run P w = .ok (l, hN, cap) w:=by
 rcases hh with ⟨rfl, rfl⟩ | ⟨k, rfl, hh⟩ <;> rcases hl with ⟨rfl, rfl⟩ | ⟨k2, rfl, hl⟩ <;>
  simp [Instr.sliceBounds, zim, *]
theorem zdb {isSlice:Bool} {len cap l hN m:Nat} {k k1:IntKind} {low:Option Value} (hm:m≤cap) (hh:hN≤m)
  (hl:(low = none ∧ l = 0) ∨ (∃ k:IntKind, low = some (.int k (l:Int)) ∧ l≤hN)):(Instr.sliceBounds isSlice len cap low (some (.int k (hN:Int))) (some (.int k1 (m:Int)))).run P w = .ok (l, hN, m) w:=by
 rcases hl with ⟨rfl, rfl⟩ | ⟨k2, rfl, hl⟩ <;> simp [Instr.sliceBounds, zim, *]
theorem zkf (b:ByteArray) (l m:Nat):(b.extract l m).data.toList = (b.data.toList.take m).drop l:=by
 simp [ByteArray.data_extract, List.extract_eq_take_drop, List.drop_take]
def OI (ρ':Operand->Value) (x:Option Operand) (a:Option Int):Prop:=(x = none ∧ a = none) ∨ ∃ (y:Operand) (k:IntKind) (n:Int), x = some y ∧ ρ' y = .int k n ∧ a = some n
theorem zgk {lo:Option Operand} {alo:Option Int} (hlo:OI ρ' lo alo) {hN:Nat} {F:Nat->M α} (e:(match alo with | some x=>bnd x hN F | none=>F 0) h = some out) :
  ∃ l:Nat, ((lo.map ρ' = none ∧ l = 0) ∨ (∃ k:IntKind, lo.map ρ' = some (.int k (l:Int)) ∧ l≤hN)) ∧ F l h = some out:=by
 rcases hlo with ⟨h1, rfl⟩ | ⟨y, k, n, h1, h2, rfl⟩
 ·exact ⟨0, .inl ⟨by rw [h1]; rfl, rfl⟩, e⟩
 ·obtain ⟨l, rfl, h3, e⟩:=zgd e
  exact ⟨l, .inr ⟨k, by rw [h1, ← h2]; rfl, h3⟩, e⟩
theorem zhy {hi:Option Operand} {ahi:Option Int} (hhi:OI ρ' hi ahi) {len cap:Nat} {F:Nat->M α} (e:(match ahi with | some x=>bnd x cap F | none=>F len) h = some out) :
  ∃ hN:Nat, ((hi.map ρ' = none ∧ hN = len) ∨ (∃ k:IntKind, hi.map ρ' = some (.int k (hN:Int)) ∧ hN≤cap)) ∧ F hN h = some out:=by
 rcases hhi with ⟨h1, rfl⟩ | ⟨y, k, n, h1, h2, rfl⟩
 ·exact ⟨len, .inl ⟨by rw [h1]; rfl, rfl⟩, e⟩
 ·obtain ⟨l, rfl, h3, e⟩:=zgd e
  exact ⟨l, .inr ⟨k, by rw [h1, ← h2]; rfl, h3⟩, e⟩
theorem zjo {ok:Nat->Prop} {s:Sl} {a:Ad} {b:Addr} {c l hN m cm size:Nat} (lo':Option Nat) (hs:s.ad = some a) (hok:ok a.id) (hb:c = 0 ∨ b = a.to ι)
  (h1:l≤hN) (h2:hN≤m) (h3:m≤cm) (h4:cm≤c)
  (h5:match lo' with | none=>cm = m ∧ (s.loose = none ∨ l = 0) | some e=>e = size ∧ s.loose = some e ∧ cm = c ∧ a.off + c * e = (ι a.id).tot) :
  SlR ι ok ⟨s.from l m size, hN - l, m - l, lo'⟩ (.slice (if cm = l then some b else (some b).map (·.add (l * size))) (hN - l) (cm - l)):=by
 have hfrom:∃ a', s.from l m size = some a' ∧ a'.id = a.id ∧ (cm ≠ l->a' = a.add (l * size)) ∧ (s.loose ≠ none->a' = a.add (l * size)):=by
  unfold Sl.from
  cases hlo:s.loose with
  | none=>
   simp only [hs, Option.map_some]
   cases hm:Nat.beq m l with
   | true=>
    have hm:=Nat.eq_of_beq_eq_true hm
    refine ⟨a, rfl, rfl, fun hne=>?_, fun h=>absurd rfl h⟩
    cases lo' with
    | none=>exact absurd (by rw [h5.1]; exact hm) hne
    | some e=>have:=h5.2.1; rw [hlo] at this; cases this
   | false=>exact ⟨_, rfl, rfl, fun _=>rfl, fun _=>rfl⟩
  | some e=>
   simp only [hs, Option.map_some]
   exact ⟨_, rfl, rfl, fun _=>rfl, fun _=>rfl⟩
 obtain ⟨a', hf, hid, hne, hlo⟩:=hfrom
 unfold SlR
 simp only [hf]
 rw [hid]
 by_cases hc:cm = l
 ·refine ⟨hok, b, cm - l, by rw [if_pos hc], .inl (by omega), by omega, ?_⟩
  cases lo' with
  | none=>simp only; omega
  | some e=>
   obtain ⟨rfl, g2, g3, g4⟩:=h5
   have:=hlo (by rw [g2]; simp)
   subst this
   refine ⟨by omega, ?_⟩
   simp only [Ad.add]
   rw [← g4, Nat.add_assoc, ← Nat.add_mul]
   congr 2; omega
 ·refine ⟨hok, b.add (l * size), cm - l, by rw [if_neg hc]; rfl, .inr ?_, by omega, ?_⟩
  ·rw [hne hc, hb.resolve_left (by omega), zbl]
  ·cases lo' with
   | none=>simp only; omega
   | some e=>
    obtain ⟨rfl, g2, g3, g4⟩:=h5
    have:=hne hc
    subst this
    refine ⟨by omega, ?_⟩
    simp only [Ad.add]
    rw [← g4, Nat.add_assoc, ← Nat.add_mul]
    congr 2; omega
theorem op_slice (hT:TabOk P T) (R:HR T base w0 X ι h w) (hρ:∀ x, VR ι (okOf h X) (ev T ρ x) (ρ' x)) {t:TypeId} {x:Operand} {lo hi mx:Option Operand} (ho:o.op = .slice t x lo hi mx)
  (e:zi T call ρ o K E h = some out):zr P T base w0 X call ι h w o ρ' K E out:=by
 simp only [zi, ho] at e
 have conv:∀ {x:Option Operand} {K:Option Int->M α}, oI T ρ x K h = some out->∃ a:Option Int, K a h = some out ∧
   ((x = none ∧ a = none) ∨ ∃ (y:Operand) (k:IntKind) (n:Int), x = some y ∧ ρ' y = .int k n ∧ a = some n):=by
  intro x K e
  rcases oI_inv hρ e with ⟨h1, e⟩ | ⟨y, k, n, h1, h2, e⟩
  ·exact ⟨none, e, .inl ⟨h1, rfl⟩⟩
  ·exact ⟨some n, e, .inr ⟨y, k, n, h1, h2, rfl⟩⟩
 obtain ⟨alo, e1, hlo⟩:=conv e
 clear e
 obtain ⟨ahi, e2, hhi⟩:=conv e1
 clear e1
 obtain ⟨amx, e, hmx⟩:=conv e2
 clear e2
 have hx:=hρ x
 generalize ev T ρ x = u at e hx
 cases u with
 | str s=>
  obtain ⟨b, hb, hbs⟩:=hx
  dsimp only at e
  cases hti:T.ti t with
  | none=>rw [hti] at e; cases e
  | some i=>
  rw [hti] at e
  obtain ⟨und, a1, a2, z, a4, a5, a6⟩:=i
  have I:=hT.ti t _ hti
  cases und with
  | string=>
   dsimp only at e
   cases amx with
   | some _=>cases e
   | none=>
    have hmx:mx = none:=by rcases hmx with ⟨h, _⟩ | ⟨_, _, _, _, _, h⟩; exact h; cases h
    subst hmx
    have hsz:s.length = b.size:=by rw [← hbs]; exact Array.length_toList
    have e':(match ahi with
     | some x=>bnd x s.length (fun h=>(match alo with | some x=>bnd x h (fun l=>K (.str ((s.take h).drop l))) | none=>(fun l=>K (.str ((s.take h).drop l))) 0))
     | none=>(fun h=>(match alo with | some x=>bnd x h (fun l=>K (.str ((s.take h).drop l))) | none=>(fun l=>K (.str ((s.take h).drop l))) 0)) s.length) h = some out:=e
    obtain ⟨hN, hh, e'⟩:=zhy hhi e'
    obtain ⟨l, hl, e'⟩:=zgk hlo e'
    refine zr.pure (x:=.string (b.extract l hN)) R e' ?_ ⟨_, rfl, by rw [zkf, hbs]⟩
    have hb1:=zci (P:=P) (w:=w) (isSlice:=false) hh hl
    rw [hsz] at hb1
    simp [execOp, ho, hb, Instr.sliceAt, Instr.slice, I.run_und, hb1]
  | _=>cases e
 | ptr q=>
  cases q with
  | none=>cases e
  | some p=>
  obtain ⟨hok, hxx⟩:=hx
  dsimp only at e
  cases hti:T.ti t with
  | none=>rw [hti] at e; cases e
  | some i=>
  rw [hti] at e
  obtain ⟨und, a1, a2, z, a4, a5, a6⟩:=i
  have I:=hT.ti t _ hti
  cases und with
   | array n el=>
    dsimp only at e
    cases htj:T.ti el with
    | none=>rw [htj] at e; cases e
    | some i=>
    rw [htj] at e
    have J:=hT.ti _ _ htj
    cases amx with
    | some _=>cases e
    | none=>
    have hmx:mx = none:=by rcases hmx with ⟨h, _⟩ | ⟨_, _, _, _, _, h⟩; exact h; cases h
    subst hmx
    dsimp only at e
    unfold cutSl at e
    obtain ⟨hck, e⟩:=zg e
    have e':(match ahi with
     | some x=>bnd x n (fun h=>(match alo with | some x=>bnd x h (fun l=>K (.slice ⟨(⟨some p, n, n, none⟩:Sl).from l n i.size, h - l, n - l, none⟩)) | none=>(fun l=>K (.slice ⟨(⟨some p, n, n, none⟩:Sl).from l n i.size, h - l, n - l, none⟩)) 0))
     | none=>(fun h=>(match alo with | some x=>bnd x h (fun l=>K (.slice ⟨(⟨some p, n, n, none⟩:Sl).from l n i.size, h - l, n - l, none⟩)) | none=>(fun l=>K (.slice ⟨(⟨some p, n, n, none⟩:Sl).from l n i.size, h - l, n - l, none⟩)) 0)) n) h = some out:=e
    obtain ⟨hN, hh, e'⟩:=zhy hhi e'
    obtain ⟨l, hl, e'⟩:=zgk hlo e'
    have hN1:hN≤n:=by rcases hh with ⟨_, h⟩ | ⟨_, _, h⟩ <;> omega
    have hl1:l≤hN:=by rcases hl with ⟨_, h⟩ | ⟨_, _, h⟩ <;> omega
    have hb1:=zci (P:=P) (w:=w) (isSlice:=false) hh hl
    have run:(execOp ρ' o).run P w = .ok (.value (.slice (if n = l then some (p.to ι) else (some (p.to ι)).map (·.add (l * i.size))) (hN - l) (n - l))) w:=by
     by_cases hnl:n = l
     ·subst hnl
      simp [execOp, ho, hxx, Instr.sliceAt, Instr.slice, I.run_und, hb1, J.run_size, Instr.sureAddr]
     ·simp [execOp, ho, hxx, Instr.sliceAt, Instr.slice, I.run_und, hb1, J.run_size, Instr.sureAddr, hnl]
    refine zr.pure R e' run ?_
    exact zjo (s:=⟨some p, n, n, none⟩) none rfl hok (.inr rfl) hl1 hN1 (Nat.le_refl _) (Nat.le_refl _) ⟨rfl, .inl rfl⟩
   | _=>cases e
 | slice s=>
  dsimp only at e
  cases hti:T.ti t with
  | none=>rw [hti] at e; cases e
  | some i=>
  rw [hti] at e
  obtain ⟨und, a1, a2, z, a4, a5, a6⟩:=i
  have I:=hT.ti t _ hti
  cases und with
  | slice el=>
   dsimp only at e
   cases htj:T.ti el with
   | none=>rw [htj] at e; cases e
   | some i=>
   rw [htj] at e
   have J:=hT.ti _ _ htj
   have run:∀ {b:Option Addr} {n c l hN m:Nat}, ρ' x = .slice b n c->(Instr.sliceBounds true n c (lo.map ρ') (hi.map ρ') (mx.map ρ')).run P w = .ok (l, hN, m) w ->
     (execOp ρ' o).run P w = .ok (.value (.slice (if m = l then b else b.map (·.add (l * i.size))) (hN - l) (m - l))) w:=by
    intro b n c l hN m h1 h2
    simp [execOp, ho, h1, Instr.sliceAt, Instr.slice, I.run_und, h2, J.run_size]
   cases amx with
   | none=>
    have hmx:mx = none:=by rcases hmx with ⟨h, _⟩ | ⟨_, _, _, _, _, h⟩; exact h; cases h
    subst hmx
    unfold cutSl at e
    obtain ⟨hck, e⟩:=zg e
    have e':(match ahi with
     | some x=>bnd x s.cap (fun h=>(match alo with | some x=>bnd x h (fun l=>K (.slice ⟨s.from l s.cap i.size, h - l, s.cap - l, s.loose⟩)) | none=>(fun l=>K (.slice ⟨s.from l s.cap i.size, h - l, s.cap - l, s.loose⟩)) 0))
     | none=>(fun h=>(match alo with | some x=>bnd x h (fun l=>K (.slice ⟨s.from l s.cap i.size, h - l, s.cap - l, s.loose⟩)) | none=>(fun l=>K (.slice ⟨s.from l s.cap i.size, h - l, s.cap - l, s.loose⟩)) 0)) s.len) h = some out:=e
    obtain ⟨hN, hh, e'⟩:=zhy hhi e'
    obtain ⟨l, hl, e'⟩:=zgk hlo e'
    have hx0:=hx
    unfold VR SlR at hx
    cases hs:s.ad with
    | none=>
     rw [hs] at hx
     obtain ⟨rfl, hxx⟩:=hx
     have hN0:hN = 0:=by rcases hh with ⟨_, h⟩ | ⟨_, _, h⟩; exact h; exact Nat.le_zero.1 h
     have hl0:l = 0:=by rcases hl with ⟨_, h⟩ | ⟨_, _, h⟩; exact h; omega
     subst hN0; subst hl0
     refine zr.pure R e' (run hxx (zci hh hl)) ?_
     exact ⟨rfl, rfl⟩
    | some a=>
     rw [hs] at hx
     obtain ⟨hok, b, c, hxx, hb, hle, hlo2⟩:=hx
     have hcap:s.cap≤c:=by
      cases hl3:s.loose with
      | none=>rw [hl3] at hlo2; simp only at hlo2; omega
      | some e=>rw [hl3] at hlo2; exact hlo2.1
     have hh':(hi.map ρ' = none ∧ hN = s.len) ∨ (∃ k:IntKind, hi.map ρ' = some (.int k (hN:Int)) ∧ hN≤c):=by
      rcases hh with h | ⟨k, h1, h2⟩
      ·exact .inl h
      ·exact .inr ⟨k, h1, by omega⟩
     have hN1:hN≤s.cap:=by rcases hh with ⟨_, h⟩ | ⟨_, _, h⟩ <;> omega
     have hl1:l≤hN:=by rcases hl with ⟨_, h⟩ | ⟨_, _, h⟩ <;> omega
     refine zr.pure R e' (run hxx (zci hh' hl)) ?_
     refine zjo s.loose hs hok hb hl1 hN1 hcap (Nat.le_refl _) ?_
     cases hl3:s.loose with
     | none=>rw [hl3] at hlo2; exact ⟨hlo2, .inl rfl⟩
     | some e=>
      rw [hl3] at hlo2 hck
      exact ⟨Nat.eq_of_beq_eq_true hck, rfl, rfl, hlo2.2⟩
   | some xm=>
    rcases hmx with ⟨_, h⟩ | ⟨ym, k1, n1, hm1, hm2, hm3⟩
    ·cases h
    cases hm3
    unfold cutSl at e
    obtain ⟨m, rfl, hm4, e⟩:=zgd e
    cases ahi with
    | none=>cases e
    | some xh=>
    rcases hhi with ⟨_, h⟩ | ⟨yh, k2, n2, hh1, hh2, hh3⟩
    ·cases h
    cases hh3
    obtain ⟨hN, rfl, hh4, e⟩:=zgd e
    have e':(match alo with
     | some x=>bnd x hN (fun l=>need (s.loose.isNone || Nat.beq l 0) (K (.slice ⟨s.from l m i.size, hN - l, m - l, none⟩)))
     | none=>(fun l=>need (s.loose.isNone || Nat.beq l 0) (K (.slice ⟨s.from l m i.size, hN - l, m - l, none⟩))) 0) h = some out:=by
     cases alo with
     | some x=>exact e
     | none=>simpa [need] using e
    obtain ⟨l, hl, e'⟩:=zgk hlo e'
    obtain ⟨hck, e'⟩:=zg e'
    have hmx':mx.map ρ' = some (.int k1 (m:Int)):=by rw [hm1, ← hm2]; rfl
    have hhi':hi.map ρ' = some (.int k2 (hN:Int)):=by rw [hh1, ← hh2]; rfl
    unfold VR SlR at hx
    cases hs:s.ad with
    | none=>
     rw [hs] at hx
     obtain ⟨rfl, hxx⟩:=hx
     have hm0:m = 0:=Nat.le_zero.1 hm4
     subst hm0
     have hN0:hN = 0:=by omega
     have hl0:l = 0:=by rcases hl with ⟨_, h⟩ | ⟨_, _, h⟩; exact h; omega
     subst hN0; subst hl0
     refine zr.pure R e' (run hxx (by rw [hmx', hhi']; exact zdb (Nat.le_refl _) (Nat.le_refl _) hl)) ?_
     exact ⟨rfl, rfl⟩
    | some a=>
     rw [hs] at hx
     obtain ⟨hok, b, c, hxx, hb, hle, hlo2⟩:=hx
     have hcap:s.cap≤c:=by
      cases hl3:s.loose with
      | none=>rw [hl3] at hlo2; simp only at hlo2; omega
      | some e=>rw [hl3] at hlo2; exact hlo2.1
     have hl1:l≤hN:=by rcases hl with ⟨_, h⟩ | ⟨_, _, h⟩ <;> omega
     refine zr.pure R e' (run hxx (by rw [hmx', hhi']; exact zdb (by omega) hh4 hl)) ?_
     refine zjo none hs hok hb hl1 hh4 (Nat.le_refl _) (by omega) ⟨rfl, ?_⟩
     rw [Bool.or_eq_true] at hck
     rcases hck with h | h
     ·left; cases hl3:s.loose with
      | none=>rfl
      | some e=>rw [hl3] at h; cases h
     ·right; exact Nat.eq_of_beq_eq_true h
  | _=>cases e
 | _=>cases e
theorem zgs (b:ByteArray) (ok:Nat->Prop):VRL ι ok (yn b.data.toList) ((b.data.map fun c=>Value.int .u8 c.toNat).toList):=by
 rw [Array.toList_map]
 induction b.data.toList with
 | nil=>trivial
 | cons c l ih=>exact ⟨rfl, ih⟩
theorem zdf (s:List UInt8):(yn s).all oneV = true:=by
 induction s with
 | nil=>rfl
 | cons c l ih=>simp [yn, oneV]
theorem zht (s:List UInt8):(yn s).length = s.length:=by simp [yn]
theorem zbg (hT:TabOk P T) {ats:Array TypeId} {j n:Nat} (e:Nat.beq (zbr T ats j) n = true) (hn:n < 3):∃ t i, ats[j]? = some t ∧ TIOk P t i ∧
  (n = 0->i.und = .string) ∧ (n = 1->∃ el, i.und = .slice el) ∧ (n = 2->∃ k el, i.und = .map k el):=by
 have e:=Nat.eq_of_beq_eq_true e
 unfold zbr at e
 cases ha:ats[j]? with
 | none=>rw [ha] at e; dsimp only at e; omega
 | some t=>
  rw [ha] at e
  dsimp only at e
  cases hi:T.ti t with
  | none=>rw [hi] at e; dsimp only at e; omega
  | some i=>
   rw [hi] at e
   refine ⟨t, i, rfl, hT.ti t i hi, ?_⟩
   obtain ⟨und, a1, a2, z, a4, a5, a6⟩:=i
   cases und <;> dsimp only at e <;> first
    | (exfalso; omega)
    | (subst e; exact ⟨fun _=>rfl, fun h=>(by cases h), fun h=>(by cases h)⟩)
    | (subst e; exact ⟨fun h=>(by cases h), fun _=>⟨_, rfl⟩, fun h=>(by cases h)⟩)
    | (subst e; exact ⟨fun h=>(by cases h), fun h=>(by cases h), fun _=>⟨_, _, rfl⟩⟩)
theorem zmq (R:HR T base w0 X ι h w) (hX:∀ i, X i->i < h.next) {src dst el:TypeId} {s:ByteArray} (hs:P.underlying src = some .string)
  (hd:P.underlying dst = some (.slice el)) (he:P.underlying el = some (.int .u8)) {K:V->M α}
  (e:zgq s.data.toList (fun a=>K (.slice ⟨some a, s.data.toList.length, s.data.toList.length, some 1⟩)) h = some out) :
  ∃ v h' ι' x w', K v h' = some out ∧ (convert src dst (.string s)).run P w = .ok x w' ∧ HR T base w0 X ι' h' w' ∧ Went X ι h w ι' h' w' ∧ VR ι' (okOf h' X) v x:=by
 unfold zgq at e
 have hr:=run_bytes_of_string (P:=P) w src dst el s hs hd he
 have hge:=grownCap_ge w s.size 0 el
 generalize grownCap w s.size 0 el = gc at hr hge
 have hsz:(bytesRow s gc).size = gc:=by
  simp only [bytesRow, Array.size_append, Array.size_map, Array.size_replicate]
  have:s.data.size = s.size:=rfl
  omega
 have hlen:s.data.toList.length = s.size:=Array.length_toList
 have hrow:∀ ok:Nat->Prop, ∀ ι:Io, VRL ι ok (yn s.data.toList) ((bytesRow s gc).toList.take (yn s.data.toList).length):=by
  intro ok ι
  have h1:=zgs (ι:=ι) s ok
  have h2:=h1.length
  simp only [bytesRow, Array.toList_append]
  rw [h2, List.take_left]
  exact h1
 have hp:=(R.drew).push (b:=.cells (yn s.data.toList) true) (o:=.cells (bytesRow s gc) el ((bytesRow s gc).size, (bytesRow s gc).size + 1)) (p:=⟨w.heap.size, 0, gc⟩) hX rfl
  ⟨bytesRow s gc, el, _, _, by rw [yg]; exact if_pos rfl, by rw [zht, hlen, hsz]; show 0 + s.size≤gc; omega, by rw [List.drop_zero]; exact hrow _ _, zdf _,
   fun _=>⟨R.size, by rw [hsz]; exact Nat.zero_add _, .inr (Nat.le_refl _)⟩, fun h=>by cases h⟩
 refine ⟨_, _, _, _, _, e, hr, hp.1, (Went.drew X ι h w).trans hp.2, ?_⟩
 unfold VR SlR
 refine ⟨⟨by show h.next < h.next + 1; omega, fun hx=>absurd (hX _ hx) (Nat.lt_irrefl _)⟩, _, gc, by rw [hlen], .inr (by simp [Ad.to, Io.set]), Nat.le_refl _, by rw [hlen]; exact hge, by simp [Io.set]⟩
theorem zfs:∀ {cs:List V} {xs:List Value} {ok:Nat->Prop} {s:List UInt8}, VRL ι ok cs xs->bytesOf cs = some s ->
  ∃ ns:List Int, xs = ns.map (Value.int .u8) ∧ s = ns.map fun n=>UInt8.ofNat n.toNat
 | [], [], _, s, _, e=>by cases e; exact ⟨[], rfl, rfl⟩
 | v :: cs, x :: xs, ok, s, hv, e=>by
  obtain ⟨h1, h2⟩:=hv
  cases v with
  | int k n=>
   cases k <;> first | (cases e; done) | skip
   simp only [bytesOf] at e
   cases hb:bytesOf cs with
   | none=>rw [hb] at e; cases e
   | some r=>
    rw [hb] at e
    cases e
    obtain ⟨ns, g1, g2⟩:=zfs h2 hb
    exact ⟨n :: ns, by rw [g1, show x = _ from h1]; rfl, by rw [g2]; rfl⟩
  | _=>cases e
 | [], _ :: _, _, _, hv, _=>hv.elim
 | _ :: _, [], _, _, hv, _=>hv.elim
theorem zfk:∀ (ns:List Int) (r:ByteArray), (ns.foldl (fun r n=>r.push (UInt8.ofNat n.toNat)) r).data.toList = r.data.toList ++ ns.map fun n=>UInt8.ofNat n.toNat
 | [], r=>by simp
 | n :: ns, r=>by
  rw [List.foldl_cons, zfk ns]
  simp [ByteArray.push]
theorem zes {a:Ad} {n:Nat} {K:List V->M α} (e:zgr a n K h = some out):∃ cs, h.row a n = some cs ∧ K cs h = some out:=by
 unfold zgr at e
 split at e
 ·exact ⟨_, by assumption, e⟩
 ·cases e
theorem row_cell {a:Ad} {n:Nat} {cs:List V} (hr:h.row a n = some cs):cs.length = n ∧ ∀ j, j < n->h.cell (a.add j) = cs[j]?:=by
 unfold H.row at hr
 split at hr
 ·rename_i bs own hb
  cases hc:Nat.ble (a.off + n) bs.length with
  | false=>rw [hc] at hr; cases hr
  | true=>
   rw [hc] at hr
   have hle:=Nat.le_of_ble_eq_true hc
   cases hr
   refine ⟨by simp; omega, fun j hj=>?_⟩
   unfold H.cell
   simp only [Ad.add, hb]
   rw [List.getElem?_take_of_lt hj, List.getElem?_drop]
 ·cases hr
theorem run_row (R:HR T base w0 X ι h w) {a:Ad} (ha:¬ X a.id) {n:Nat} {cs:List V} (hr:h.row a n = some cs) :
  ∃ xs:Array Value, (loadCells (a.to ι) n).run P w = .ok xs w ∧ VRL ι (okOf h X) cs xs.toList:=by
 obtain ⟨hl, hc⟩:=row_cell hr
 subst hl
 exact zbf R ha hc
theorem conv_back (R:HR T base w0 X ι h w) {src dst el:TypeId} {s:Sl} {x:Value} (hx:SlR ι (okOf h X) s x) (hs:P.underlying src = some (.slice el))
  (hd:P.underlying dst = some .string) (he:P.underlying el = some (.int .u8)) {K:V->M α}
  (e:rdSl s 1 (fun cs=>toStr cs fun b=>K (.str b)) h = some out) :
  ∃ b:ByteArray, K (.str b.data.toList) h = some out ∧ (convert src dst x).run P w = .ok (.string b) w:=by
 unfold rdSl at e
 unfold SlR at hx
 cases hsa:s.ad with
 | none=>
  rw [hsa] at e hx
  obtain ⟨_, rfl⟩:=hx
  obtain ⟨_, e⟩:=zg e
  refine ⟨.empty, e, ?_⟩
  rw [run_convert_bytes_string w src dst el none 0 0 hs he hd]
  rfl
 | some a=>
  rw [hsa] at e hx
  obtain ⟨hok, b, c, rfl, hb, hle, hlo⟩:=hx
  obtain ⟨cs, hr, e⟩:=zes e
  unfold toStr at e
  rw [Nat.mul_one] at hr
  obtain ⟨xs, hrun, hv⟩:=run_row (P:=P) R hok.2 hr
  cases hbs:bytesOf cs with
  | none=>rw [hbs] at e; cases e
  | some r=>
   rw [hbs] at e
   obtain ⟨ns, h1, h2⟩:=zfs hv hbs
   have hxs:xs = (ns.map (Value.int .u8)).toArray:=by rw [← h1]
   have hload:(loadCells b s.len).run P w = .ok (ns.map (Value.int .u8)).toArray w:=by
    rcases hb with hb | hb
    ·have hl0:s.len = 0:=by
      cases hlo2:s.loose with
      | none=>rw [hlo2] at hlo; simp only at hlo; omega
      | some e=>rw [hlo2] at hlo; have:=hlo.1; omega
     rw [hl0] at hrun ⊢
     rw [← hxs]
     have h0:(Result.ok #[] w:Result (Array Value)) = .ok xs w:=hrun
     cases h0
     rfl
    ·rw [hb, hrun, hxs]
   refine ⟨_, ?_, by rw [run_convert_bytes_string w src dst el (some b) s.len c hs he hd]; exact run_bytesToString w b s.len c ns hload⟩
   rw [zfk]
   subst h2
   exact e
theorem zfu (a:Addr) (n:Nat) (hn:n ≠ 0) (b:Nat):(w.freeze a n).heap[b]? =
  if b = a.block then (w.heap[b]?).map (fun o=>match o with
   | .cells c elem (lo, hi)=>.cells c elem (if lo == hi then (a.off, a.off + n) else (min lo a.off, max hi (a.off + n)))
   | o=>o) else w.heap[b]?:=by
 unfold World.freeze
 rw [if_neg hn]
 simp only [Array.getElem?_modify]
 split
 ·rename_i h; rw [if_pos h.symm]; cases w.heap[b]? <;> rfl
 ·rename_i h; rw [if_neg (fun e=>h e.symm)]
theorem HR.markOwn (R:HR T base w0 X ι h w) {i:Nat} (hx:¬ X i) (ho:h.own i = true) :
  ∃ n, (shape (ι i).cb).run P w = .ok (some n) w ∧ HR T base w0 X ι h (w.freeze ⟨(ι i).cb, n.2, none⟩ 1) ∧ Went X ι h w ι h (w.freeze ⟨(ι i).cb, n.2, none⟩ 1):=by
 unfold H.own at ho
 split at ho
 ·rename_i cs b hb
  subst ho
  obtain ⟨arr, elem, lo, hi, harr, hsz, hv, hone, hown, _⟩:=R.blk i _ hx hb
  obtain ⟨hbase, htot, hfr⟩:=hown rfl
  have hother:∀ b, b ≠ (ι i).cb->(w.freeze ⟨(ι i).cb, arr.size, none⟩ 1).heap[b]? = w.heap[b]?:=fun b hb=>by rw [zfu _ _ (by decide), if_neg hb]
  have hsame:∃ lo' hi', (w.freeze ⟨(ι i).cb, arr.size, none⟩ 1).heap[(ι i).cb]? = some (.cells arr elem (lo', hi')) ∧ (lo' = hi' ∨ arr.size≤lo'):=by
   rw [zfu _ _ (by decide), if_pos rfl, harr]
   simp only [Option.map_some]
   by_cases he:lo = hi
   ·subst he; exact ⟨arr.size, arr.size + 1, by simp, .inr (Nat.le_refl _)⟩
   ·have:(lo == hi) = false:=by simpa using he
    rw [this]
    exact ⟨_, _, rfl, .inr (by omega)⟩
  have hsize:(w.freeze ⟨(ι i).cb, arr.size, none⟩ 1).heap.size = w.heap.size:=by simp [World.freeze]
  refine ⟨(elem, arr.size), by simp [shape, Sem.run, World.shape?, harr], ⟨by rw [hsize]; exact R.size, fun b hb2=>?_, R.dom, fun j c hxj hc=>?_, R.inj, R.glob, by simpa [World.freeze] using R.env⟩,
   ⟨fun _ _=>rfl, Nat.le_refl _, fun _ _=>rfl, by rw [hsize]; exact Nat.le_refl _, fun b _ hn=>?_, fun j c hxj hc ho=>.inr ⟨j, c, hxj, hc, ho, rfl⟩⟩⟩
  ·rw [hother b (by omega)]; exact R.old b hb2
  ·by_cases hcb:(ι j).cb = (ι i).cb
   ·cases c with
    | cells cs' own=>
     cases own with
     | true=>
      have:=R.inj j i _ _ hxj hx hc hb rfl rfl hcb
      subst this
      rw [hc] at hb
      cases hb
      obtain ⟨lo', hi', g1, g2⟩:=hsame
      exact ⟨arr, elem, lo', hi', g1, hsz, hv, hone, fun _=>⟨hbase, htot, g2⟩, fun h=>by cases h⟩
     | false=>
      obtain ⟨_, _, _, _, _, _, _, _, _, hf⟩:=R.blk j _ hxj hc
      have:=hf rfl
      omega
    | cellsT _ _ _=>
     have:=R.inj j i _ _ hxj hx hc hb rfl rfl hcb
     subst this
     rw [hc] at hb; cases hb
    | map es=>
     have:=R.inj j i _ _ hxj hx hc hb rfl rfl hcb
     subst this
     rw [hc] at hb; cases hb
    | iter es=>
     have:=R.inj j i _ _ hxj hx hc hb rfl rfl hcb
     subst this
     rw [hc] at hb; cases hb
   ·exact (R.blk j c hxj hc).mono (fun _ _=>rfl) (fun _ hj=>hj) (hother _ hcb)
  ·exact hother b (fun e=>hn i _ hx hb rfl e.symm)
 ·cases ho
end ops
end Go.Ab
