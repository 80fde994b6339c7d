/-
  THE ABSTRACT MACHINE: what an operation looks at; operations that look at no memory.
-/
import Derived.Test.YtkfoohgkbafafaaAb10
set_option linter.unusedVariables false
set_option linter.unusedSimpArgs false
namespace Go.Ab

theorem ev_congr {T : Tab} {ρ ρ2 : Frame} {x : Operand} (h : ∀ t, x = .tmp t → ρ t = ρ2 t) : ev T ρ x = ev T ρ2 x := by
  cases x with
  | tmp t => exact h t rfl
  | _ => rfl
theorem stepOp_congr {α : Type} {T : Tab} {call : Call α} {ρ ρ2 : Frame} {K E : V → M α} (o : Oper) (h : ∀ x ∈ o.op.operands, ev T ρ x = ev T ρ2 x) :
    stepOp T call ρ o K E = stepOp T call ρ2 o K E := by
  obtain ⟨dst, op, type, pos, after, guard⟩ := o
  have pairs : ∀ ps : Array (Nat × Operand), (∀ x ∈ ps.map (·.2), ev T ρ x = ev T ρ2 x) →
      (ps.toList.map fun (i, x) => (i, ev T ρ x)) = (ps.toList.map fun (i, x) => (i, ev T ρ2 x)) := fun ps hp =>
    List.map_congr_left fun p hm => by
      obtain ⟨i, x⟩ := p
      simp only [hp x (Array.mem_map.2 ⟨(i, x), Array.mem_toList_iff.1 hm, rfl⟩)]
  have lst : ∀ ps : Array Operand, (∀ x ∈ ps, ev T ρ x = ev T ρ2 x) → ps.toList.map (ev T ρ) = ps.toList.map (ev T ρ2) := fun ps hp =>
    List.map_congr_left fun x hm => hp x (Array.mem_toList_iff.1 hm)
  cases op <;> simp only [Op.operands] at h
  case build t ps => simp only [stepOp]; rw [pairs ps fun x hx => h x (by simpa using hx)]
  case buildSlice t n ps => simp only [stepOp]; rw [pairs ps fun x hx => h x (by simpa using hx)]
  case makeFunc fn first captured =>
    cases fn <;> first | rfl | (simp only [stepOp]; rw [lst first fun x hx => h x (by simp [hx]), lst captured fun x hx => h x (by simp [hx])])
  case call c =>
    have ha := lst c.args fun x hx => h x (by simp [Call.operands, hx])
    simp only [stepOp]
    cases hc : c.callee with
    | value f => have hf : ev T ρ f = ev T ρ2 f := h f (by simp [Call.operands, hc]); simp only [hf, ha]
    | builtin b => simp only [ha]
    | invoke r m => rfl
  case makeMap t r => cases r <;> rfl
  case slice t x lo hi mx =>
    have e1 : ev T ρ x = ev T ρ2 x := h x (by simp)
    have e2 : ∀ o : Option Operand, (∀ y, o = some y → ev T ρ y = ev T ρ2 y) → ∀ {β : Type} (K : Option Int → M β), oI T ρ o K = oI T ρ2 o K := by
      intro o ho β K
      cases o with
      | none => rfl
      | some y => simp only [oI, ho y rfl]
    have e3 := @e2 lo (fun y hy => h y (by simp [hy]))
    have e4 := @e2 hi (fun y hy => h y (by simp [hy]))
    have e5 := @e2 mx (fun y hy => h y (by simp [hy]))
    simp only [stepOp, e1, e3, e4, e5]
  case typeAssert x xt t ok => cases ok <;> first | rfl | (simp only [stepOp, h x (by simp)])
  all_goals first | rfl | (simp_all [stepOp]; done)

/-- asks no memory, and hands on one thing -/
def PG {γ : Type} (f : ∀ β : Type, (γ → M β) → M β) : Prop := ∃ r : Option γ, ∀ (β : Type) (K : γ → M β) (h : H), f β K h = match r with | some v => K v h | none => none
def PU (f : ∀ β : Type, Call β → (V → M β) → (V → M β) → M β) : Prop :=
  ∃ r : Option V, ∀ (β : Type) (c : Call β) (K E : V → M β) (h : H), f β c K E h = match r with | some v => K v h | none => none
theorem PG.fail {γ : Type} : PG (γ := γ) fun β K => Ab.fail := ⟨none, fun _ _ _ => rfl⟩
theorem PG.ret {γ : Type} (v : γ) : PG (γ := γ) fun β K => K v := ⟨some v, fun _ _ _ => rfl⟩
theorem PG.bind {γ δ : Type} {g : ∀ β : Type, (γ → M β) → M β} {f : γ → ∀ β : Type, (δ → M β) → M β} (hg : PG g) (hf : ∀ x, PG (f x)) : PG fun β K => g β fun x => f x β K := by
  obtain ⟨r, hr⟩ := hg
  cases r with
  | none => exact ⟨none, fun β K h => hr β _ h⟩
  | some x =>
    obtain ⟨r', hr'⟩ := hf x
    exact ⟨r', fun β K h => (hr β _ h).trans (hr' β K h)⟩
theorem PU.fail : PU fun β c K E => Ab.fail := ⟨none, fun _ _ _ _ _ => rfl⟩
theorem PU.ret (v : V) : PU fun β c K E => K v := ⟨some v, fun _ _ _ _ _ => rfl⟩
theorem PU.bind {γ : Type} {g : ∀ β : Type, (γ → M β) → M β} {f : γ → ∀ β : Type, Call β → (V → M β) → (V → M β) → M β} (hg : PG g) (hf : ∀ x, PU (f x)) :
    PU fun β c K E => g β fun x => f x β c K E := by
  obtain ⟨r, hr⟩ := hg
  cases r with
  | none => exact ⟨none, fun β c K E h => hr β _ h⟩
  | some x =>
    obtain ⟨r', hr'⟩ := hf x
    exact ⟨r', fun β c K E h => (hr β _ h).trans (hr' β c K E h)⟩
theorem PU.of {g : ∀ β : Type, (V → M β) → M β} (hg : PG g) : PU fun β c K E => g β K := by
  obtain ⟨r, hr⟩ := hg
  refine ⟨r, fun β c K E h => ?_⟩
  have := hr β K h
  cases r <;> exact this
theorem PG.need {γ : Type} (b : Bool) {f : ∀ β : Type, (γ → M β) → M β} (hf : PG f) : PG fun β K => Ab.need b (f β K) := by
  cases b
  · exact ⟨none, fun _ _ _ => rfl⟩
  · exact hf
theorem PG.asI (k : IntKind) (v : V) : PG fun β K => Ab.asI k v K := by
  cases v <;> first | exact PG.fail | skip
  rename_i j n
  cases h : kindEq j k
  · exact ⟨none, fun _ _ _ => by simp [Ab.asI, h, Ab.fail]⟩
  · exact ⟨some n, fun _ _ _ => by simp [Ab.asI, h]⟩
theorem PG.asB (v : V) : PG fun β K => Ab.asB v K := by cases v <;> first | exact PG.fail | exact PG.ret _
theorem PG.asStr (v : V) : PG fun β K => Ab.asStr v K := by cases v <;> first | exact PG.fail | exact PG.ret _
theorem PG.asP (v : V) : PG fun β K => Ab.asP v K := by cases v <;> first | exact PG.fail | exact PG.ret _
theorem PG.asS (v : V) : PG fun β K => Ab.asS v K := by cases v <;> first | exact PG.fail | exact PG.ret _
theorem PG.asAgg (v : V) : PG fun β K => Ab.asAgg v K := by cases v <;> first | exact PG.fail | exact PG.ret _
theorem PG.asNil (v : V) : PG fun β K => Ab.asNil v K := by cases v <;> first | exact PG.fail | exact PG.ret _
theorem PG.asSome {γ : Type} (a : Option γ) : PG fun β K => Ab.asSome a K := by cases a <;> first | exact PG.fail | exact PG.ret _
theorem PG.mk (b : Bool) (cs : List V) : PG fun β K => Ab.mk b cs K := by
  cases b
  · match cs with
    | [] => exact PG.fail
    | [v] => exact PG.ret v
    | _ :: _ :: _ => exact PG.fail
  · exact PG.ret _
theorem PG.part (ti : TI) (cs : List V) (off : Nat) : PG fun β K => Ab.part ti cs off K := by
  unfold Ab.part
  cases ti.agg
  · cases cs[off]?
    · exact PG.fail
    · exact PG.ret _
  · exact PG.ret _
theorem PG.cat (a b : List UInt8) : PG fun β K => Ab.cat a b K := PG.need _ (PG.ret _)
theorem PG.idxStr (s : List UInt8) (i : Int) : PG fun β K => Ab.idxStr s i K := by
  unfold Ab.idxStr
  refine PG.need _ ?_
  cases s[i.toNat]?
  · exact PG.fail
  · exact PG.ret _
theorem PG.idxSl (s : Sl) (i : Int) (n : Nat) : PG fun β K => Ab.idxSl s i n K := by
  unfold Ab.idxSl
  exact PG.bind (PG.asSome _) fun a => PG.need _ (PG.need _ (PG.ret _))
theorem PG.bnd (x : Int) (y : Nat) : PG fun β K => Ab.bnd x y K := PG.need _ (PG.need _ (PG.ret _))
theorem PG.oI (T : Tab) (ρ : Frame) (o : Option Operand) : PG fun β K => Ab.oI T ρ o K := by
  cases o with
  | none => exact PG.ret _
  | some x =>
    unfold Ab.oI
    dsimp only
    generalize ev T ρ x = u
    cases u <;> first | exact PG.fail | exact PG.ret _
theorem PG.cutStr (s : List UInt8) (lo hi : Option Int) : PG fun β K => Ab.cutStr s lo hi K := by
  unfold Ab.cutStr
  cases hi <;> cases lo
  · exact PG.ret _
  · exact PG.bind (PG.bnd _ _) fun l => PG.ret _
  · exact PG.bind (PG.bnd _ _) fun l => PG.ret _
  · exact PG.bind (PG.bnd _ _) fun l => PG.bind (PG.bnd _ _) fun l => PG.ret _
theorem PG.cutSl (s : Sl) (n : Nat) (lo hi mx : Option Int) : PG fun β K => Ab.cutSl s n lo hi mx K := by
  unfold Ab.cutSl
  cases mx with
  | some m =>
    cases hi with
    | none => exact PG.bind (PG.bnd _ _) fun _ => PG.fail
    | some h =>
      cases lo with
      | none => exact PG.bind (PG.bnd _ _) fun m => PG.bind (PG.bnd _ _) fun h => PG.ret _
      | some l => exact PG.bind (PG.bnd _ _) fun m => PG.bind (PG.bnd _ _) fun h => PG.bind (PG.bnd _ _) fun l => PG.need _ (PG.ret _)
  | none =>
    refine PG.need _ ?_
    cases hi <;> cases lo
    · exact PG.ret _
    · exact PG.bind (PG.bnd _ _) fun l => PG.ret _
    · exact PG.bind (PG.bnd _ _) fun l => PG.ret _
    · exact PG.bind (PG.bnd _ _) fun l => PG.bind (PG.bnd _ _) fun l => PG.ret _
theorem PG.arith (op : BinOp) (k : IntKind) (a b : Int) : PG fun β K => Ab.arith op k a b K := by
  cases op <;> first | exact PG.fail | exact PG.ret _ | exact PG.need _ (PG.ret _)
theorem PG.shift (op : BinOp) (k : IntKind) (a b : Int) : PG fun β K => Ab.shift op k a b K := by
  unfold Ab.shift
  refine PG.need _ ?_
  cases op <;> first | exact PG.fail | exact PG.ret _
theorem PG.strOp (op : BinOp) (a b : List UInt8) : PG fun β K => Ab.strOp op a b K := by
  unfold Ab.strOp
  cases op <;> first | exact PG.fail | exact PG.ret _ | exact PG.bind (PG.cat _ _) fun s => PG.ret _
theorem PG.eqAll (xs ys : List V) : PG fun β K => Ab.eqAll xs ys K := ⟨eqB xs ys, fun β K h => by
  have := eqAll_eq xs ys K h
  cases hb : eqB xs ys <;> rw [hb] at this <;> exact this⟩
theorem PG.eqV (T : Tab) (t : TypeId) (x y : V) : PG fun β K => Ab.eqV T t x y K := by
  unfold Ab.eqV
  split <;> first | exact PG.fail | exact PG.need _ (PG.ret _) | skip
  cases T.ti t
  · exact PG.fail
  · exact PG.need _ (PG.eqAll _ _)
theorem PG.binNil (T : Tab) (op : BinOp) (t : TypeId) (ox oy : Operand) (x : V) : PG fun β (K : V → M β) =>
    Ab.need (isC ox || isC oy) (Ab.need (isK T t 5) (Ab.asNil x fun b => K (.bool (eqOr op b)))) := PG.need _ (PG.need _ (PG.bind (PG.asNil _) fun b => PG.ret _))
theorem PG.binEq (T : Tab) (op : BinOp) (t : TypeId) (x y : V) : PG fun β (K : V → M β) => (Ab.eqV T t x y fun b => K (.bool (eqOr op b))) := PG.bind (PG.eqV _ _ _ _) fun b => PG.ret _
theorem PG.binOp (T : Tab) (op : BinOp) (t : TypeId) (ox oy : Operand) (x y : V) : PG fun β K => Ab.binOp T op t ox oy x y K := by
  unfold Ab.binOp
  cases op <;> cases x <;> dsimp only <;> first | exact PG.fail | skip
  all_goals (cases y <;> dsimp only <;> first | exact PG.fail | exact PG.need _ (PG.arith _ _ _ _) | exact PG.strOp _ _ _ | exact PG.shift _ _ _ _ | exact PG.binNil T _ t ox oy _ | exact PG.binEq T _ t _ _)
theorem PG.unOp (op : UnOp) (x : V) : PG fun β K => Ab.unOp op x K := by
  cases op <;> cases x <;> first | exact PG.fail | exact PG.ret _
theorem PG.fillL (p : Nat → Option (Nat × Nat)) : ∀ (l : List (Nat × V)) (cs : List V), PG fun β K => Ab.fillL p cs K l
  | [], cs => PG.ret _
  | (i, v) :: l, cs => by
    simp only [Ab.fillL]
    cases p i with
    | none => exact PG.fail
    | some a => exact PG.need _ (PG.fillL p l _)

/-- operations that look at no memory and make none -/
def pureOp (T : Tab) : Op → Bool
  | .move _ | .assign _ | .pick .. | .build .. | .nilCheck _ | .binOp .. | .unOp .. | .makeInterface .. | .makeFunc .. | .slice .. | .fieldAddr .. | .field .. | .indexAddr .. | .index .. | .typeAssert .. | .extract .. => true
  | .convert _ d _ => (match T.ti d with | some i => (match i.und with | .int _ => true | _ => false) | none => false)
  | .call c => (match c.callee with
    | .builtin .len => Nat.blt (kindOf T c.argTypes 0) 2
    | .builtin .cap | .builtin .min | .builtin .max => true
    | _ => false)
  | _ => false

theorem stepOp_pure {T : Tab} {ρ : Frame} {o : Oper} (hp : pureOp T o.op = true) : PU fun β (c : Call β) K E => stepOp T c ρ o K E := by
  obtain ⟨dst, op, type, pos, after, guard⟩ := o
  cases op <;> first | (cases hp; done) | skip
  case move x => exact PU.ret _
  case assign x => exact PU.ret _
  case pick c a b =>
    refine PU.bind (PG.asB _) fun g => ?_
    cases g <;> exact PU.ret _
  case build t ps =>
    simp only [stepOp]
    cases T.ti t with
    | none => exact PU.fail
    | some i =>
      obtain ⟨und, a1, a2, z, a4, a5, a6⟩ := i
      cases und <;> first | exact PU.fail | skip
      · rename_i n e
        dsimp only
        cases T.ti e with
        | none => exact PU.fail
        | some i => exact PU.bind (PG.fillL _ _ _) fun _ => PU.ret _
      · exact PU.bind (PG.fillL _ _ _) fun _ => PU.ret _
  case nilCheck x =>
    simp only [stepOp]
    generalize ev T ρ x = u
    cases u <;> first | exact PU.fail | exact PU.ret _ | exact PU.bind (PG.asSome _) fun _ => PU.ret _
  case binOp op t x y ty => exact PU.of (PG.binOp T op t x y _ _)
  case unOp op t x => exact PU.of (PG.unOp op _)
  case makeInterface t x =>
    simp only [stepOp]
    cases T.ti t with
    | none => exact PU.fail
    | some i =>
      obtain ⟨und, a1, a2, z, a4, a5, a6⟩ := i
      cases und <;> first | exact PU.fail | exact PU.ret _
  case makeFunc f a b => cases f <;> first | exact PU.fail | exact PU.ret _
  case slice t x lo hi mx =>
    simp only [stepOp]
    refine PU.bind (PG.oI _ _ _) fun lo => PU.bind (PG.oI _ _ _) fun hi => PU.bind (PG.oI _ _ _) fun mx => ?_
    generalize ev T ρ x = u
    cases T.ti t with
    | none => cases u <;> exact PU.fail
    | some i =>
      obtain ⟨und, a1, a2, z, a4, a5, a6⟩ := i
      cases u <;> first | exact PU.fail | skip
      · cases und <;> first | exact PU.fail | skip
        cases mx <;> first | exact PU.fail | exact PU.bind (PG.cutStr _ _ _) fun _ => PU.ret _
      · cases und <;> first | exact PU.fail | skip
        rename_i e
        dsimp only
        cases T.ti e with
        | none => exact PU.fail
        | some i => exact PU.bind (PG.cutSl _ _ _ _ _) fun _ => PU.ret _
  case fieldAddr t x n =>
    simp only [stepOp]
    refine PU.bind (PG.asP _) fun p => PU.bind (PG.asSome _) fun p => ?_
    cases T.ti t with
    | none => exact PU.fail
    | some i =>
      obtain ⟨und, a1, a2, z, a4, a5, a6⟩ := i
      cases und <;> first | exact PU.fail | skip
      rename_i fs
      dsimp only
      cases fieldAt T fs n with
      | none => exact PU.fail
      | some r => exact PU.of (PG.need _ (PG.ret _))
  case field t x n =>
    simp only [stepOp]
    cases T.ti t with
    | none => exact PU.fail
    | some i =>
      obtain ⟨und, a1, a2, z, a4, a5, a6⟩ := i
      cases und <;> first | exact PU.fail | skip
      rename_i fs
      dsimp only
      cases fieldAt T fs n with
      | none => exact PU.fail
      | some r => exact PU.bind (PG.asAgg _) fun _ => PU.of (PG.part _ _ _)
  case indexAddr t x ix =>
    simp only [stepOp]
    generalize ev T ρ ix = v
    cases T.ti t with
    | none => exact PU.fail
    | some i =>
      obtain ⟨und, a1, a2, z, a4, a5, a6⟩ := i
      cases und <;> first | exact PU.fail | skip
      case array n e =>
        dsimp only
        cases T.ti e <;> cases v <;> first | exact PU.fail | exact PU.bind (PG.asP _) fun p => PU.bind (PG.asSome _) fun p => PU.of (PG.need _ (PG.need _ (PG.ret _)))
      case slice e =>
        dsimp only
        cases T.ti e <;> cases v <;> first | exact PU.fail | exact PU.bind (PG.asS _) fun p => PU.bind (PG.idxSl _ _ _) fun p => PU.ret _
  case index t x ix =>
    simp only [stepOp]
    generalize ev T ρ ix = v
    generalize ev T ρ x = u
    cases v <;> first | exact PU.fail | skip
    cases u <;> first | exact PU.fail | skip
    · cases T.ti t with
      | none => exact PU.fail
      | some i =>
        obtain ⟨und, a1, a2, z, a4, a5, a6⟩ := i
        cases und <;> first | exact PU.fail | exact PU.bind (PG.idxStr _ _) fun _ => PU.ret _
    · cases T.ti t with
      | none => exact PU.fail
      | some i =>
        obtain ⟨und, a1, a2, z, a4, a5, a6⟩ := i
        cases und <;> first | exact PU.fail | skip
        rename_i n e
        dsimp only
        cases T.ti e with
        | none => exact PU.fail
        | some i => exact PU.of (PG.need _ (PG.need _ (PG.part _ _ _)))
  case typeAssert x xt t ok =>
    cases ok with
    | false => exact PU.fail
    | true =>
      simp only [stepOp]
      generalize ev T ρ x = u
      cases T.ti t with
      | none => exact PU.fail
      | some i =>
        have hz : PU fun β c K E => Ab.mk i.agg i.zero fun z => K (.tuple [z, .bool false]) := PU.bind (PG.mk _ _) fun _ => PU.ret _
        have hc : ∀ v : V, PU fun β c K E => ifaceM v t (fun v => K (.tuple [v, .bool true])) (Ab.mk i.agg i.zero fun z => K (.tuple [z, .bool false])) := by
          intro v
          cases v <;> first | exact PU.fail | exact hz | skip
          rename_i u w
          simp only [ifaceM]
          cases Nat.beq u t
          · exact hz
          · exact PU.ret _
        obtain ⟨und, a1, a2, z, a4, a5, a6⟩ := i
        cases und <;> first | exact PU.fail | exact hc _
  case extract x n =>
    simp only [stepOp]
    generalize ev T ρ x = u
    cases u <;> first | exact PU.fail | skip
    rename_i vs
    dsimp only
    cases vs[n]? <;> first | exact PU.fail | exact PU.ret _
  case convert s d x =>
    simp only [stepOp, conv]
    simp only [pureOp] at hp
    generalize ev T ρ x = u
    cases hd : T.ti d with
    | none => rw [hd] at hp; cases hp
    | some di =>
      rw [hd] at hp
      obtain ⟨und, a1, a2, z, a4, a5, a6⟩ := di
      cases T.ti s with
      | none => exact PU.fail
      | some si =>
        cases und <;> first | (cases hp; done) | skip
        cases u <;> first | exact PU.fail | exact PU.ret _
  case call c =>
    obtain ⟨callee, args, ats⟩ := c
    simp only [pureOp] at hp
    cases callee <;> first | (cases hp; done) | skip
    rename_i b
    simp only [stepOp]
    generalize args.toList.map (ev T ρ) = vs
    cases b <;> first | (cases hp; done) | skip
    case len =>
      dsimp only at hp
      have hk : kindOf T ats 0 < 2 := Nat.lt_of_succ_le (Nat.le_of_ble_eq_true hp)
      match vs with
      | [] => exact PU.fail
      | [v] =>
        cases v <;> first | exact PU.fail | exact PU.of (PG.need _ (PG.ret _)) | skip
        rename_i r
        have : Nat.beq (kindOf T ats 0) 2 = false := beq_ne (by omega)
        exact ⟨none, fun β c K E h => by simp [Ab.builtin, this, Ab.need, Ab.fail]⟩
      | v :: _ :: _ => cases v <;> exact PU.fail
    case cap =>
      match vs with
      | [] => exact PU.fail
      | [v] => cases v <;> first | exact PU.fail | exact PU.of (PG.need _ (PG.need _ (PG.ret _)))
      | v :: _ :: _ => cases v <;> exact PU.fail
    case max =>
      match vs with
      | [] => exact PU.fail
      | [v] => cases v <;> exact PU.fail
      | [v, u] => cases v <;> cases u <;> first | exact PU.fail | exact PU.of (PG.need _ (PG.ret _))
      | v :: u :: _ :: _ => cases v <;> cases u <;> exact PU.fail
    case min =>
      match vs with
      | [] => exact PU.fail
      | [v] => cases v <;> exact PU.fail
      | [v, u] => cases v <;> cases u <;> first | exact PU.fail | exact PU.of (PG.need _ (PG.ret _))
      | v :: u :: _ :: _ => cases v <;> cases u <;> exact PU.fail
end Go.Ab
