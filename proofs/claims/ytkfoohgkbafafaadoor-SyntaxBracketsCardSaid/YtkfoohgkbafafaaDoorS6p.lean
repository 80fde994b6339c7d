import Derived.Test.YtkfoohgkbafafaaDoorAb24
import Derived.Test.YtkfoohgkbafafaaDoorS6b
import Derived.Test.YtkfoohgkbafafaaDoorAb20
import Derived.Test.YtkfoohgkbafafaaDoorS6as
import Derived.Test.YtkfoohgkbafafaaDoorS6lay
namespace Go.Ab.S6
open Go.Proofs
set_option linter.unusedVariables false
set_option linter.unusedSimpArgs false
variable {α : Type} {base : Nat} {w0 : World}
def Laid (base : Nat) (w0 : World) : Prop := 0 < base ∧ w0.cell? ⟨0, 0, none⟩ = some (.iface 96 (.agg #[.pointer (some ⟨2, 27, none⟩)]))
theorem bytealg_IndexByteString.call (hL : Laid base w0) (k : Nat) (hC : ∀ j, k = j + 1 → CallOk Tryd.prog T base w0 (env (α := α) j)) : FnOk Tryd.prog T base w0 (env (α := α) k) 55 := by
  intro X ι h w args xs κ out hX0 R hv e
  have e : env_55 k args κ h = some out := e
  unfold env_55 at e
  match args, hv, e with
  | [a0, a1], hv, e =>
    obtain ⟨s, rfl, e1⟩ := asStr_inv e
    obtain ⟨c, rfl, e2⟩ := asI_inv e1
    cases k with
    | zero => cases e2
    | succ k =>
      have e2 : κ (.ret (.int .i64 (indexByte s c))) h = some out := e2
      obtain ⟨⟨b, hb, hs⟩, hc, hn⟩ : (∃ b : ByteArray, xs.toList[0]? = some (.string b) ∧ b.data.toList = s) ∧ xs.toList[1]? = some (.int .u8 c) ∧ xs.toList.length = 2 := by
        match hx : xs.toList, hv with
        | [x, y], hv =>
          obtain ⟨⟨b, h1, h2⟩, h3, _⟩ := hv
          exact ⟨⟨b, by rw [h1]; rfl, h2⟩, by rw [show y = _ from h3]; rfl, rfl⟩
      have hxs : xs = #[.string b, .int .u8 c] := by
        apply Array.ext'
        match hx : xs.toList with
        | [x, y] => rw [hx] at hb hc; simp at hb hc; rw [hb, hc]
        | [] => rw [hx] at hn; simp at hn
        | [_] => rw [hx] at hn; simp at hn
        | _ :: _ :: _ :: _ => rw [hx] at hn; simp at hn
      refine .inl ⟨_, .int .i64 (indexByte s c), h, ι, w, e2, ?_, R, Went.refl X ι h w, rfl⟩
      rw [run_callFunc_extern Tryd.func55 (by kernel_rfl) (by kernel_rfl) (by kernel_rfl) (by kernel_rfl : Extern.find Tryd.f55 = some Extern.BytealgIndexByte.indexByte), hxs, Lib.run_indexByteString]
      simp [indexByte, indexB_eq, hs]
theorem enter_of {P : Program} {g : FuncId} {fn : Func} (hf : P.funcs[g]? = some fn) (h1 : ¬ fn.name = "runtime.NumGoroutine") (h2 : fn.body.isNone = false) (xs : Array Value) (w : World) : (callFunc g xs).run P w = .ok (.enter g xs) w := by
  have h3 : ¬ fn.body = none := fun h => by rw [h] at h2; cases h2
  simp [callFunc, hf, h1, h3]
theorem builder_copyCheck.call (hL : Laid base w0) (k : Nat) (hC : ∀ j, k = j + 1 → CallOk Tryd.prog T base w0 (env (α := α) j)) : FnOk Tryd.prog T base w0 (env (α := α) k) 39 := by
  intro X ι h w args xs κ out hX0 R hv e
  have e : env_39 k args κ h = some out := e
  unfold env_39 at e
  match args, hv, e with
  | [a0], hv, e =>
    obtain ⟨q, rfl, e⟩ := asP_inv e
    obtain ⟨b, rfl, e⟩ := asSome_inv e
    cases k with
    | zero => cases e
    | succ k =>
      have e : copyCheckF 42 b (κ (.ret (.tuple []))) h = some out := e
      have hxs : xs = #[.pointer (some (b.to ι))] := by
        apply Array.ext'
        match hx : xs.toList, hv with
        | [x], hv => rw [show x = _ from hv.1.2]
      subst hxs
      refine .inr ⟨enter_of Tryd.func39 (by decide) (by kernel_rfl) _ _, ?_⟩
      refine (copyCheck_calls lays240 x72 R (hX0 _) e).mono ?_
      rintro z w' ⟨h', ι', e1, R', W', rfl⟩
      exact ⟨.ret (.tuple []), h', ι', e1, R', W', ⟨#[], rfl, trivial⟩⟩
theorem builder_String.call (hL : Laid base w0) (k : Nat) (hC : ∀ j, k = j + 1 → CallOk Tryd.prog T base w0 (env (α := α) j)) : FnOk Tryd.prog T base w0 (env (α := α) k) 13 := by
  intro X ι h w args xs κ out hX0 R hv e
  have e : env_13 k args κ h = some out := e
  unfold env_13 at e
  match args, hv, e with
  | [a0], hv, e =>
    obtain ⟨q, rfl, e⟩ := asP_inv e
    obtain ⟨b, rfl, e⟩ := asSome_inv e
    cases k with
    | zero => cases e
    | succ k =>
      have e : stringF 42 5 b (fun l => κ (.ret (.str l))) h = some out := e
      have hxs : xs = #[.pointer (some (b.to ι))] := by
        apply Array.ext'
        match hx : xs.toList, hv with
        | [x], hv => rw [show x = _ from hv.1.2]
      subst hxs
      refine .inr ⟨enter_of Tryd.func13 (by decide) (by kernel_rfl) _ _, ?_⟩
      refine (string_calls lays169 extra R (hX0 _) e).mono ?_
      rintro z w' ⟨l, h', ι', e1, R', W', rfl⟩
      exact ⟨.ret (.str l), h', ι', e1, R', W', ⟨_, rfl, by simp⟩⟩
theorem errors_As.call (hL : Laid base w0) (k : Nat) (hC : ∀ j, k = j + 1 → CallOk Tryd.prog T base w0 (env (α := α) j)) : FnOk Tryd.prog T base w0 (env (α := α) k) 24 := by
  intro X ι h w args xs κ out hX0 R hv e
  have e : env_24 k args κ h = some out := e
  unfold env_24 at e
  match args, hv, e with
  | [a0, a1], hv, e =>
    cases k with
    | zero => cases e
    | succ k =>
      have e1 : errorsAs 56 66 a0 a1 (fun o0 => κ (.ret (.bool o0))) h = some out := e
      have hen : (callFunc 24 xs).run Tryd.prog w = .ok (.enter 24 xs) w := by
        have h1 : ¬ Tryd.f24.name = "runtime.NumGoroutine" := by decide
        have h2 : Tryd.f24.body.isNone = false := by kernel_rfl
        have h3 : ¬ Tryd.f24.body = none := fun h => by rw [h] at h2; cases h2
        simp [callFunc, Tryd.func24, h1, h3]
      obtain ⟨x, y, rfl, hx, hy⟩ : ∃ x y, xs = #[x, y] ∧ VR ι (okOf h X) a0 x ∧ VR ι (okOf h X) a1 y := by
        match hxs : xs.toList, hv with
        | [x, y], hv => exact ⟨x, y, Array.ext' hxs, hv.1, hv.2.1⟩
      unfold errorsAs at e1
      cases a1 with
      | iface u v1 =>
        cases v1 with
        | ptr o =>
          cases o with
          | none => cases e1
          | some q =>
            dsimp only at e1
            obtain ⟨hu, e2⟩ := need_inv e1
            have hu := Nat.eq_of_beq_eq_true hu
            subst hu
            obtain ⟨y', rfl, hok, rfl⟩ := hy
            cases a0 with
            | nilIface =>
              have hx : x = .nilIface := hx
              subst hx
              refine .inr ⟨hen, (as_nil _ w).mono ?_⟩
              rintro e w' ⟨rfl, rfl⟩
              exact ⟨.ret (.bool false), h, ι, e2, R, Went.refl X ι h w', rfl⟩
            | iface t' v =>
              obtain ⟨ht, e3⟩ := need_inv e2
              have ht := Nat.eq_of_beq_eq_true ht
              subst ht
              obtain ⟨p, rfl, e4⟩ := asP_inv e3
              obtain ⟨p, rfl, e5⟩ := asSome_inv e4
              obtain ⟨x', rfl, hokp, rfl⟩ := hx
              obtain ⟨h', hs, e6⟩ := st1_inv e5
              have hg : w.cell? ⟨0, 0, none⟩ = some (.iface 96 (.agg #[.pointer (some ⟨2, 27, none⟩)])) := by
                rw [← hL.2]
                simp only [World.cell?, R.old 0 hL.1]
              obtain ⟨⟨old, hc⟩, hf, hone, _⟩ := R.setCell (v := .ptr (some p)) (x := .pointer (some (p.to ι))) (a := q) hok.2 ⟨hokp, rfl⟩ hs
              refine .inr ⟨hen, (as_hit (p.to ι) (q.to ι) old w hg hc hf).mono ?_⟩
              rintro e w' ⟨rfl, rfl⟩
              obtain ⟨R1, W1⟩ := R.other (.cells #[.pointer (some (q.to ι))] 66)
              obtain ⟨R2, W2⟩ := R1.other (.cells #[.pointer (some ⟨2, 66, none⟩), .pointer (some ⟨w.heap.size, 0, none⟩), .int .u64 150] 80)
              obtain ⟨R3, W3⟩ := R2.other (.cells #[.pointer (some ⟨2, 66, none⟩), .pointer (some ⟨w.heap.size, 0, none⟩), .int .u64 150] 80)
              obtain ⟨R4, W4⟩ := R3.other (.cells #[.pointer (some (p.to ι))] 56)
              obtain ⟨_, _, _, R5, W5⟩ := R4.setCell (v := .ptr (some p)) (x := .pointer (some (p.to ι))) (a := q) hok.2 ⟨hokp, rfl⟩ hs
              exact ⟨.ret (.bool true), h', ι, e6, R5, (((W1.trans W2).trans W3).trans W4).trans W5, rfl⟩
            | _ => cases e2
        | _ => cases e1
      | _ => cases e1
theorem env_step (hL : Laid base w0) (k : Nat) (hC : ∀ j, k = j + 1 → CallOk Tryd.prog T base w0 (env (α := α) j)) : CallOk Tryd.prog T base w0 (env (α := α) k) := by
  intro X ι h w g args xs κ out hX0 R hv e
  by_cases h55 : g = 55
  · subst h55; exact bytealg_IndexByteString.call hL k hC X ι h w args xs κ out hX0 R hv e
  by_cases h39 : g = 39
  · subst h39; exact builder_copyCheck.call hL k hC X ι h w args xs κ out hX0 R hv e
  by_cases h13 : g = 13
  · subst h13; exact builder_String.call hL k hC X ι h w args xs κ out hX0 R hv e
  by_cases h43 : g = 43
  · subst h43; exact stringslite_IndexByte.call k hC X ι h w args xs κ out hX0 R hv e
  by_cases h30 : g = 30
  · subst h30; exact strings_IndexByte.call k hC X ι h w args xs κ out hX0 R hv e
  by_cases h44 : g = 44
  · subst h44; exact scan_kind.call k hC X ι h w args xs κ out hX0 R hv e
  by_cases h45 : g = 45
  · subst h45; exact scan_long.call k hC X ι h w args xs κ out hX0 R hv e
  by_cases h46 : g = 46
  · subst h46; exact scan_value.call k hC X ι h w args xs κ out hX0 R hv e
  by_cases h31 : g = 31
  · subst h31; exact scan_token.call k hC X ι h w args xs κ out hX0 R hv e
  by_cases h18 : g = 18
  · subst h18; exact scan_All.call k hC X ι h w args xs κ out hX0 R hv e
  by_cases h21 : g = 21
  · subst h21; exact syntax_Parse_c2.call k hC X ι h w args xs κ out hX0 R hv e
  by_cases h32 : g = 32
  · subst h32; exact slices_IndexFunc_Token_Token_21.call k hC X ι h w args xs κ out hX0 R hv e
  by_cases h20 : g = 20
  · subst h20; exact slices_DeleteFunc_Token_Token_21.call k hC X ι h w args xs κ out hX0 R hv e
  by_cases h47 : g = 47
  · subst h47; exact spis.call k hC X ι h w args xs κ out hX0 R hv e
  by_cases h56 : g = 56
  · subst h56; exact spnext.call k hC X ι h w args xs κ out hX0 R hv e
  by_cases h48 : g = 48
  · subst h48; exact spmakes.call k hC X ι h w args xs κ out hX0 R hv e
  by_cases h49 : g = 49
  · subst h49; exact spnode.call k hC X ι h w args xs κ out hX0 R hv e
  by_cases h23 : g = 23
  · subst h23; exact spwrong.call k hC X ι h w args xs κ out hX0 R hv e
  by_cases h42 : g = 42
  · subst h42; exact syntax_word.call k hC X ι h w args xs κ out hX0 R hv e
  by_cases h58 : g = 58
  · subst h58; exact spneed.call k hC X ι h w args xs κ out hX0 R hv e
  by_cases h57 : g = 57
  · subst h57; exact spstep.call k hC X ι h w args xs κ out hX0 R hv e
  by_cases h22 : g = 22
  · subst h22; exact spformula.call k hC X ι h w args xs κ out hX0 R hv e
  by_cases h33 : g = 33
  · subst h33; exact sprow.call k hC X ι h w args xs κ out hX0 R hv e
  by_cases h34 : g = 34
  · subst h34; exact spand.call k hC X ι h w args xs κ out hX0 R hv e
  by_cases h50 : g = 50
  · subst h50; exact spunary.call k hC X ι h w args xs κ out hX0 R hv e
  by_cases h59 : g = 59
  · subst h59; exact spword.call k hC X ι h w args xs κ out hX0 R hv e
  by_cases h9 : g = 9
  · subst h9; exact syntax_Parse.call k hC X ι h w args xs κ out hX0 R hv e
  by_cases h24 : g = 24
  · subst h24; exact errors_As.call hL k hC X ι h w args xs κ out hX0 R hv e
  by_cases h41 : g = 41
  · subst h41; exact syntax_spelt.call k hC X ι h w args xs κ out hX0 R hv e
  by_cases h27 : g = 27
  · subst h27; exact syntax_name.call k hC X ι h w args xs κ out hX0 R hv e
  by_cases h28 : g = 28
  · subst h28; exact syntax_variable.call k hC X ι h w args xs κ out hX0 R hv e
  by_cases h14 : g = 14
  · subst h14; exact syntax_below.call k hC X ι h w args xs κ out hX0 R hv e
  by_cases h16 : g = 16
  · subst h16; exact syntax_Right_c1.call k hC X ι h w args xs κ out hX0 R hv e
  by_cases h29 : g = 29
  · subst h29; exact slices_IndexFunc_int_int_16.call k hC X ι h w args xs κ out hX0 R hv e
  by_cases h15 : g = 15
  · subst h15; exact slices_ContainsFunc_int_int_16.call k hC X ι h w args xs κ out hX0 R hv e
  by_cases h17 : g = 17
  · subst h17; exact slEq.call k hC X ι h w args xs κ out hX0 R hv e
  by_cases h8 : g = 8
  · subst h8; exact syntax_Right.call k hC X ι h w args xs κ out hX0 R hv e
  by_cases h25 : g = 25
  · subst h25; exact strings_Builder_WriteString.call k hC X ι h w args xs κ out hX0 R hv e
  by_cases h40 : g = 40
  · subst h40; exact syntax_fix.call k hC X ι h w args xs κ out hX0 R hv e
  by_cases h12 : g = 12
  · subst h12; exact syntax_write.call k hC X ι h w args xs κ out hX0 R hv e
  by_cases h26 : g = 26
  · subst h26; exact syntax_operand.call k hC X ι h w args xs κ out hX0 R hv e
  by_cases h7 : g = 7
  · subst h7; exact syntax_Print.call k hC X ι h w args xs κ out hX0 R hv e
  by_cases h6 : g = 6
  · subst h6; exact w4shown.call k hC X ι h w args xs κ out hX0 R hv e
  by_cases h11 : g = 11
  · subst h11; exact w4fault.call k hC X ι h w args xs κ out hX0 R hv e
  by_cases h4 : g = 4
  · subst h4; exact w4SyntaxBrackets.call k hC X ι h w args xs κ out hX0 R hv e
  by_cases h10 : g = 10
  · subst h10; exact r4Same.call k hC X ι h w args xs κ out hX0 R hv e
  exfalso
  have : env k g args κ h = none := by
    unfold env
    split <;> first | contradiction | rfl
  rw [this] at e
  cases e
theorem env_ok (hL : Laid base w0) : ∀ k : Nat, CallOk Tryd.prog T base w0 (env (α := α) k) := by
  intro k
  induction k with
  | zero => exact env_step hL 0 (fun j h => by cases h)
  | succ k ih => exact env_step hL (k + 1) (fun j h => by cases h; exact ih)
end Go.Ab.S6
