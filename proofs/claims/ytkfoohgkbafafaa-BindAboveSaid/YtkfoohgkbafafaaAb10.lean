/-
  THE ABSTRACT MACHINE AGAINST THE MODEL: operations in a row.
-/
import Derived.Test.YtkfoohgkbafafaaAb9
import Derived.Calls
set_option linter.unusedVariables false
set_option linter.unusedSimpArgs false
namespace Go.Ab

/-- how a call ends -/
def EndR (ι : Io) (ok : Nat → Prop) : Res → Ending → Prop
  | .ret v, .returned x => VR ι ok v x
  | .pan v, .panicked c => ∃ x, c = [{ v := x, recovered := false }] ∧ VR ι ok v x
  | _, _ => False

section
variable {α : Type} (P : Program) (T : Tab) (base : Nat) (w0 : World)
/-- What a call does: it is answered at once, or entered. -/
def CallRes (X : Nat → Prop) (ι : Io) (h : H) (w : World) (g : FuncId) (xs : Array Value) (κ : Res → M α) (out : α) : Prop :=
  (∃ r x h' ι' w', κ (.ret r) h' = some out ∧ (callFunc g xs).run P w = .ok (.value x) w' ∧ HR T base w0 X ι' h' w' ∧ Went X ι h w ι' h' w' ∧ VR ι' (okOf h' X) r x) ∨
  ((callFunc g xs).run P w = .ok (.enter g xs) w ∧ Calls P g xs w fun e w' => ∃ r h' ι', κ r h' = some out ∧ HR T base w0 X ι' h' w' ∧ Went X ι h w ι' h' w' ∧ EndR ι' (okOf h' X) r e)
def CallOk (call : Call α) : Prop := ∀ (X : Nat → Prop) (ι : Io) (h : H) (w : World) (g : FuncId) (args : List V) (xs : Array Value) (κ : Res → M α) (out : α),
  (∀ i, ¬ X i) → HR T base w0 X ι h w → VRL ι (okOf h X) args xs.toList → call g args κ h = some out → CallRes P T base w0 X ι h w g xs κ out
def FnOk (call : Call α) (g : FuncId) : Prop := ∀ (X : Nat → Prop) (ι : Io) (h : H) (w : World) (args : List V) (xs : Array Value) (κ : Res → M α) (out : α),
  (∀ i, ¬ X i) → HR T base w0 X ι h w → VRL ι (okOf h X) args xs.toList → call g args κ h = some out → CallRes P T base w0 X ι h w g xs κ out
end

/-- A frame against a frame's values. -/
def FR (ι : Io) (ok : Nat → Prop) (ρ : Frame) (a : Act) : Prop := ∀ t, VR ι ok (ρ t) (a.tmps.getD t undef)
theorem FR.mono {ι ι' : Io} {ok ok' : Nat → Prop} {ρ : Frame} {a : Act} (hι : ∀ i, ok i → ι' i = ι i) (hok : ∀ i, ok i → ok' i) (h : FR ι ok ρ a) : FR ι' ok' ρ a :=
  fun t => (h t).mono hι hok
theorem getD_put {a : Act} {d t : Nat} {x : Value} (hd : d < a.tmps.size) : ((a.put (some d) x).tmps).getD t undef = if t = d then x else a.tmps.getD t undef := by
  simp only [Act.put, Array.getD_eq_getD_getElem?, Array.getElem?_setIfInBounds]
  by_cases h : d = t
  · subst h; simp [hd]
  · have : ¬ t = d := fun e => h e.symm
    simp [h, this]
theorem put_size (a : Act) (d : Option Nat) (x : Value) : (a.put d x).tmps.size = a.tmps.size := by
  cases d <;> simp [Act.put]
theorem put_df (a : Act) (d : Option Nat) (x : Value) : (a.put d x).defers = a.defers := by
  cases d <;> rfl
theorem FR.put {ι : Io} {ok : Nat → Prop} {ρ : Frame} {a : Act} {dst : Option Nat} {v : V} {x : Value} (h : FR ι ok ρ a) (hv : VR ι ok v x) (hd : ∀ d, dst = some d → d < a.tmps.size) :
    FR ι ok (ρ.put dst v) (a.put dst x) := by
  cases dst with
  | none => exact h
  | some d =>
    intro t
    rw [getD_put (hd d rfl)]
    show VR ι ok (cond (Nat.beq t d) v (ρ t)) _
    by_cases e : t = d
    · subst e; simpa using hv
    · rw [beq_ne e, if_neg e]; exact h t
theorem set_same {ρ : Frame} {t : Nat} {v : V} (h : ρ t = v) : ρ.set t v = ρ := by
  funext u
  show cond (Nat.beq u t) v (ρ u) = ρ u
  by_cases e : u = t
  · subst e; rw [h]; cases Nat.beq u u <;> rfl
  · rw [beq_ne e]; rfl
theorem frameL_none (l : List (Nat × V)) (t : Nat) (h : ∀ p ∈ l, p.1 ≠ t) : frameL l t = .undef := by
  induction l with
  | nil => rfl
  | cons p l ih =>
    obtain ⟨u, v⟩ := p
    show cond (Nat.beq t u) v (frameL l t) = .undef
    rw [beq_ne (fun e => h (u, v) List.mem_cons_self e.symm)]
    exact ih fun p hp => h p (List.mem_cons_of_mem _ hp)
theorem keepL_cases (keep : List Nat) (ρ : Frame) (t : Nat) : keepL keep ρ t = ρ t ∨ keepL keep ρ t = .undef := by
  unfold keepL
  induction keep with
  | nil => exact .inr rfl
  | cons u l ih =>
    show cond (Nat.beq t u) (ρ u) _ = ρ t ∨ cond (Nat.beq t u) (ρ u) _ = .undef
    by_cases e : t = u
    · subst e; left; simp
    · rw [beq_ne e]; exact ih
theorem FR.keep {ι : Io} {ok : Nat → Prop} {ρ : Frame} {a : Act} (h : FR ι ok ρ a) (keep : List Nat) : FR ι ok (keepL keep ρ) a := by
  intro t
  rcases keepL_cases keep ρ t with e | e <;> rw [e]
  · exact h t
  · trivial

section
variable {α : Type} {P : Program} {T : Tab} {base : Nat} {w0 : World} {X : Nat → Prop} {ι : Io} {h : H} {w : World} {call : Call α} {ρ : Frame} {out : α}
theorem Went.ok {ι' : Io} {h' : H} {w' : World} (W : Went X ι h w ι' h' w') : ∀ i, okOf h X i → okOf h' X i := fun i hi => ⟨Nat.lt_of_lt_of_le hi.1 W.next, hi.2⟩
theorem Went.io {ι' : Io} {h' : H} {w' : World} (W : Went X ι h w ι' h' w') : ∀ i, okOf h X i → ι' i = ι i := fun i hi => W.ext i hi.1

/-- a frame's slots, and those that are not to be written -/
structure Lot where
  n : Nat
  kp : List (Nat × Value)
def Lot.has (N : Lot) (t : Nat) : Prop := t < N.n ∧ ∀ p ∈ N.kp, p.1 ≠ t
def keepB (l : List Nat) (ops : Array Oper) : Bool := ops.toList.all fun o => match o.dst with | some d => l.all fun k => !(Nat.beq k d) | none => true
theorem keep_ok {l : List (Nat × Value)} {ops : Array Oper} (h : keepB (l.map (·.1)) ops = true) {i : Nat} {o : Oper} {t : Nat} (ho : ops[i]? = some o) (hd : o.dst = some t) : ∀ p ∈ l, p.1 ≠ t := by
  unfold keepB at h
  rw [List.all_eq_true] at h
  have h1 := h o (Array.mem_toList_iff.2 (Array.mem_of_getElem? ho))
  rw [hd] at h1
  dsimp only at h1
  rw [List.all_eq_true] at h1
  intro p hp he
  have := h1 p.1 (List.mem_map.2 ⟨p, hp, rfl⟩)
  rw [he, Nat.beq_refl] at this
  cases this
theorem getD_put_ne {a : Act} {dst : Option Nat} {x : Value} {t : Nat} (h : dst ≠ some t) : (a.put dst x).tmps.getD t undef = a.tmps.getD t undef := by
  cases dst with
  | none => rfl
  | some d =>
    have hne : d ≠ t := fun e => h (by rw [e])
    simp [Act.put, Array.getD_eq_getD_getElem?, Array.getElem?_setIfInBounds, hne]
/-- where a run stands, against its beginning -/
structure St (T : Tab) (base : Nat) (w0 : World) (X : Nat → Prop) (N : Lot) (d : List Deferred) (ι₀ : Io) (h₀ : H) (w₁ : World) (ι : Io) (h : H) (w : World) (a : Act) : Prop where
  R : HR T base w0 X ι h w
  W : Went X ι₀ h₀ w₁ ι h w
  x0 : ∀ i, ¬ X i
  sz : a.tmps.size = N.n
  kp : ∀ p ∈ N.kp, a.tmps.getD p.1 undef = p.2
  df : a.defers = d
variable {N : Lot} {d : List Deferred} {ι₀ : Io} {h₀ : H} {w₁ : World} {a : Act}
theorem St.xlt (S : St T base w0 X N d ι₀ h₀ w₁ ι h w a) : ∀ i, X i → i < h.next := fun i hi => absurd hi (S.x0 i)
theorem St.go {ι' : Io} {h' : H} {w' : World} {dst : Option Nat} {x : Value} (S : St T base w0 X N d ι₀ h₀ w₁ ι h w a) (hd : ∀ t, dst = some t → N.has t) (R : HR T base w0 X ι' h' w') (W : Went X ι h w ι' h' w') :
    St T base w0 X N d ι₀ h₀ w₁ ι' h' w' (a.put dst x) :=
  ⟨R, S.W.trans W, S.x0, by rw [put_size]; exact S.sz, fun p hp => by rw [getD_put_ne (fun e => (hd _ e).2 p hp rfl)]; exact S.kp p hp, by rw [put_df]; exact S.df⟩
theorem St.go' {ι' : Io} {h' : H} {w' : World} (S : St T base w0 X N d ι₀ h₀ w₁ ι h w a) (R : HR T base w0 X ι' h' w') (W : Went X ι h w ι' h' w') :
    St T base w0 X N d ι₀ h₀ w₁ ι' h' w' a :=
  ⟨R, S.W.trans W, S.x0, S.sz, S.kp, S.df⟩

/-- one operation, carried out -/
theorem op_wp (hT : TabOk P T) (hC : CallOk P T base w0 call) {o : Oper} {K E : V → M α} {next : Act → World → Prop} {Q : Exit → Act → World → Prop}
    (hfit : ∀ t, o.dst = some t → N.has t) (S : St T base w0 X N d ι₀ h₀ w₁ ι h w a) (hρ : ∀ x, VR ι (okOf h X) (ev T ρ x) (a.eval x)) (e : stepOp T call ρ o K E h = some out)
    (hn : ∀ v h' ι' x w', K v h' = some out → St T base w0 X N d ι₀ h₀ w₁ ι' h' w' (a.put o.dst x) → Went X ι h w ι' h' w' → VR ι' (okOf h' X) v x → next (a.put o.dst x) w')
    (hp : ∀ v h' ι' x w', E v h' = some out → St T base w0 X N d ι₀ h₀ w₁ ι' h' w' a → VR ι' (okOf h' X) v x → Q (.panic [{ v := x, recovered := false }]) a w') :
    o.wp P a w next Q := by
  unfold Oper.wp
  rcases stepOp_ok (P := P) hT S.R S.xlt hρ e with ⟨v, h', ι', x, w', e1, hr, R', W', hv⟩ | ⟨v, x, e1, hr, hv⟩ | ⟨g, args, xs, hr, hv, e1⟩
  · rcases hr with hr | ⟨rfl, hr⟩
    · rw [hr]; exact hn v h' ι' x w' e1 (S.go hfit R' W') W' hv
    · rw [hr]; exact hn v h' ι' undef w' e1 (S.go hfit R' W') W' hv
  · rw [hr]; exact hp v h ι x w e1 S hv
  · rw [hr]
    rcases hC X ι h w g args xs _ out S.x0 S.R hv e1 with ⟨r, x, h', ι', w', e2, hr2, R', W', hv'⟩ | ⟨hr2, hcalls⟩
    · rw [hr2]; exact hn r h' ι' x w' e2 (S.go hfit R' W') W' hv'
    · rw [hr2]
      refine Calls.mono hcalls ?_
      rintro e w' ⟨r, h', ι', e2, R', W', hend⟩
      cases r with
      | ret v =>
        cases e with
        | returned x => exact hn v h' ι' x w' e2 (S.go hfit R' W') W' hend
        | _ => exact hend.elim
      | pan v =>
        cases e with
        | panicked c =>
          obtain ⟨x, rfl, hv⟩ := hend
          exact hp v h' ι' x w' e2 (S.go' R' W') hv
        | _ => exact hend.elim

theorem yielded_at {ops : Array Oper} {tmps : Array Value} {j t : Nat} (hj : dstOf ops j = some t) (b : Bool) (hb : tmps.getD t undef = .bool b) : yielded ops tmps j = some b := by
  unfold dstOf at hj
  unfold yielded
  cases ho : ops[j]? with
  | none => rw [ho] at hj; cases hj
  | some o =>
    rw [ho] at hj
    dsimp only at hj
    simp only [Option.bind_some, hj]
    rw [Array.getD_eq_getD_getElem?] at hb
    cases ht : tmps[t]? with
    | none => rw [ht] at hb; simp [undef] at hb
    | some x => rw [ht] at hb; simp at hb; simp [hb]
theorem yielded_not {ops : Array Oper} {tmps : Array Value} {j t : Nat} (hj : dstOf ops j = some t) (hb : tmps.getD t undef = .tuple #[]) : yielded ops tmps j = none := by
  unfold dstOf at hj
  unfold yielded
  cases ho : ops[j]? with
  | none => rw [ho] at hj; cases hj
  | some o =>
    rw [ho] at hj
    dsimp only at hj
    simp only [Option.bind_some, hj]
    rw [Array.getD_eq_getD_getElem?] at hb
    cases ht : tmps[t]? with
    | none => simp
    | some x => rw [ht] at hb; simp at hb; simp [hb]

/-- one operation with its guard -/
theorem evOp1_ok (hT : TabOk P T) (hC : CallOk P T base w0 call) {ops : Array Oper} {Q : Exit → Act → World → Prop} {rest : List Oper} {next : Act → World → Prop} {o : Oper} {K : Frame → M α} {E : V → M α}
    (hfit : ∀ t, o.dst = some t → N.has t)
    (S : St T base w0 X N d ι₀ h₀ w₁ ι h w a) (F : FR ι (okOf h X) ρ a) (e : evOps T call ops (o :: rest) ρ K E h = some out)
    (hn : ∀ ρ' h' ι' a' w', evOps T call ops rest ρ' K E h' = some out → St T base w0 X N d ι₀ h₀ w₁ ι' h' w' a' → FR ι' (okOf h' X) ρ' a' → next a' w')
    (hp : ∀ v h' ι' x w', E v h' = some out → St T base w0 X N d ι₀ h₀ w₁ ι' h' w' a → VR ι' (okOf h' X) v x → Q (.panic [{ v := x, recovered := false }]) a w') :
    if Region.wanted o (yielded ops a.tmps) then o.wp P a w next Q else next (a.put o.dst undef) w := by
  have hsz : ∀ t, o.dst = some t → t < a.tmps.size := fun t ht => by rw [S.sz]; exact (hfit t ht).1
  have run : ∀ {ρ : Frame}, FR ι (okOf h X) ρ a → stepOp T call ρ o (fun v => evOps T call ops rest (ρ.put o.dst v) K E) E h = some out → o.wp P a w next Q := by
    intro ρ F e
    refine op_wp hT hC hfit S (fun x => ev_ok S.R F x) e (fun v h' ι' x w' e1 S' W' hv => ?_) hp
    exact hn _ h' ι' _ w' e1 S' ((F.mono W'.io W'.ok).put hv hsz)
  have skip : ∀ {ρ : Frame}, FR ι (okOf h X) ρ a → evOps T call ops rest (ρ.put o.dst (.tuple [])) K E h = some out → next (a.put o.dst undef) w := by
    intro ρ F e
    exact hn _ h ι _ w e (S.go hfit S.R (Went.refl X ι h w)) (F.put ⟨#[], rfl, trivial⟩ hsz)
  simp only [evOps] at e
  cases hg : o.guard with
  | none =>
    rw [hg] at e
    have : Region.wanted o (yielded ops a.tmps) = true := by simp [Region.wanted, hg]
    rw [if_pos this]
    exact run F e
  | some gw =>
    obtain ⟨j, want⟩ := gw
    rw [hg] at e
    dsimp only at e
    cases ht : dstOf ops j with
    | none => rw [ht] at e; cases e
    | some t =>
      rw [ht] at e
      dsimp only at e
      have hFt := F t
      generalize hρt : ρ t = u at e hFt
      cases u with
      | bool g =>
        have hy := yielded_at (ops := ops) ht g hFt
        have hw : Region.wanted o (yielded ops a.tmps) = (g == want) := by
          simp only [Region.wanted, hg, hy]
          cases g <;> cases want <;> rfl
        rw [hw]
        dsimp only at e
        have hs := set_same hρt
        have e' : cond (g == want) (stepOp T call ρ o (fun v => evOps T call ops rest (ρ.put o.dst v) K E) E) (evOps T call ops rest (ρ.put o.dst (.tuple [])) K E) h = some out := by
          cases g
          · simpa [bcase, hs] using e
          · simpa [bcase, hs] using e
        cases hq : (g == want) with
        | true => rw [hq] at e'; rw [if_pos rfl]; exact run F e'
        | false => rw [hq] at e'; rw [if_neg (by simp)]; exact skip F e'
      | tuple vs =>
        cases vs with
        | cons _ _ => cases e
        | nil =>
          obtain ⟨arr, harr, hv⟩ := hFt
          have : arr = #[] := by
            have := hv.length
            exact Array.eq_empty_of_size_eq_zero (by simpa using this.symm)
          subst this
          have hy := yielded_not (ops := ops) ht harr
          have hw : Region.wanted o (yielded ops a.tmps) = false := by simp [Region.wanted, hg, hy]
          rw [hw, if_neg (by simp)]
          exact skip F e
      | _ => cases e

theorem evOps_ok (hT : TabOk P T) (hC : CallOk P T base w0 call) {ops : Array Oper} {Q : Exit → Act → World → Prop} {K : Frame → M α} {E : V → M α}
    (hfit : ∀ (i : Nat) (o : Oper) (t : Nat), ops[i]? = some o → o.dst = some t → N.has t)
    (hn : ∀ ρ' h' ι' a' w', K ρ' h' = some out → St T base w0 X N d ι₀ h₀ w₁ ι' h' w' a' → FR ι' (okOf h' X) ρ' a' → Q .normal a' w')
    (hp : ∀ v h' ι' x a' w', E v h' = some out → St T base w0 X N d ι₀ h₀ w₁ ι' h' w' a' → VR ι' (okOf h' X) v x → Q (.panic [{ v := x, recovered := false }]) a' w') :
    ∀ (l : List Nat) (os : List Oper), l.map (fun i => ops[i]?) = os.map some → ∀ (ρ : Frame) (h : H) (ι : Io) (a : Act) (w : World),
      St T base w0 X N d ι₀ h₀ w₁ ι h w a → FR ι (okOf h X) ρ a → evOps T call ops os ρ K E h = some out → wpOps P ops Q l a w
  | [], [], _, ρ, h, ι, a, w, S, F, e => hn ρ h ι a w e S F
  | i :: l, o :: os, hl, ρ, h, ι, a, w, S, F, e => by
    simp only [List.map_cons, List.cons.injEq] at hl
    simp only [wpOps, hl.1]
    have := evOp1_ok (Q := Q) (next := wpOps P ops Q l) hT hC (fun t ht => hfit i o t hl.1 ht) S F e
      (fun ρ' h' ι' a' w' e' S' F' => evOps_ok hT hC hfit hn hp l os hl.2 ρ' h' ι' a' w' S' F' e') (fun v h' ι' x w' e' S' hv => hp v h' ι' x a w' e' S' hv)
    split
    · rename_i hw; rw [if_pos hw] at this; exact .inl this
    · rename_i hw; rw [if_neg hw] at this; exact this
  | [], _ :: _, hl, _, _, _, _, _, _, _, _ => by simp at hl
  | _ :: _, [], hl, _, _, _, _, _, _, _, _ => by simp at hl
end
end Go.Ab
