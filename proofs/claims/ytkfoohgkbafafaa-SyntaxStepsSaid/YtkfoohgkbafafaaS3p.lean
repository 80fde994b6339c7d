import Derived.Test.YtkfoohgkbafafaaAb24
import Derived.Test.YtkfoohgkbafafaaS3b
import Derived.Test.YtkfoohgkbafafaaS3lay
namespace Go.Ab.S3
open Go.Proofs
set_option linter.unusedVariables false
set_option linter.unusedSimpArgs false
variable {α : Type} {base : Nat} {w0 : World}
def Laid (base : Nat) (w0 : World) : Prop := True
theorem bytealg_IndexByteString.call (hL : Laid base w0) (k : Nat) (hC : ∀ j, k = j + 1 → CallOk Try.prog T base w0 (env (α := α) j)) : FnOk Try.prog T base w0 (env (α := α) k) 79 := by
  intro X ι h w args xs κ out hX0 R hv e
  have e : env_79 k args κ h = some out := e
  unfold env_79 at e
  match args, hv, e with
  | [a0, a1], hv, e =>
    obtain ⟨s, rfl, e1⟩ := asStr_inv e
    obtain ⟨c, rfl, e2⟩ := asI_inv e1
    cases k with
    | zero => cases e2
    | succ k =>
      have e2 : κ (.ret (.int .i64 (indexByte s c))) h = some out := e2
      obtain ⟨⟨b, hb, hs⟩, hc, hn⟩ : (∃ b : ByteArray, xs.toList[0]? = some (.string b) ∧ b.data.toList = s) ∧ xs.toList[1]? = some (.int .u8 c) ∧ xs.toList.length = 2 := by
        match hx : xs.toList, hv with
        | [x, y], hv =>
          obtain ⟨⟨b, h1, h2⟩, h3, _⟩ := hv
          exact ⟨⟨b, by rw [h1]; rfl, h2⟩, by rw [show y = _ from h3]; rfl, rfl⟩
      have hxs : xs = #[.string b, .int .u8 c] := by
        apply Array.ext'
        match hx : xs.toList with
        | [x, y] => rw [hx] at hb hc; simp at hb hc; rw [hb, hc]
        | [] => rw [hx] at hn; simp at hn
        | [_] => rw [hx] at hn; simp at hn
        | _ :: _ :: _ :: _ => rw [hx] at hn; simp at hn
      refine .inl ⟨_, .int .i64 (indexByte s c), h, ι, w, e2, ?_, R, Went.refl X ι h w, rfl⟩
      rw [run_callFunc_extern Try.func79 (by kernel_rfl) (by kernel_rfl) (by kernel_rfl) (by kernel_rfl : Extern.find Try.f79 = some Extern.BytealgIndexByte.indexByte), hxs, Lib.run_indexByteString]
      simp [indexByte, indexB_eq, hs]
theorem enter_of {P : Program} {g : FuncId} {fn : Func} (hf : P.funcs[g]? = some fn) (h1 : ¬ fn.name = "runtime.NumGoroutine") (h2 : fn.body.isNone = false) (xs : Array Value) (w : World) : (callFunc g xs).run P w = .ok (.enter g xs) w := by
  have h3 : ¬ fn.body = none := fun h => by rw [h] at h2; cases h2
  simp [callFunc, hf, h1, h3]
theorem builder_copyCheck.call (hL : Laid base w0) (k : Nat) (hC : ∀ j, k = j + 1 → CallOk Try.prog T base w0 (env (α := α) j)) : FnOk Try.prog T base w0 (env (α := α) k) 67 := by
  intro X ι h w args xs κ out hX0 R hv e
  have e : env_67 k args κ h = some out := e
  unfold env_67 at e
  match args, hv, e with
  | [a0], hv, e =>
    obtain ⟨q, rfl, e⟩ := asP_inv e
    obtain ⟨b, rfl, e⟩ := asSome_inv e
    cases k with
    | zero => cases e
    | succ k =>
      have e : copyCheckF 64 b (κ (.ret (.tuple []))) h = some out := e
      have hxs : xs = #[.pointer (some (b.to ι))] := by
        apply Array.ext'
        match hx : xs.toList, hv with
        | [x], hv => rw [show x = _ from hv.1.2]
      subst hxs
      refine .inr ⟨enter_of Try.func67 (by decide) (by kernel_rfl) _ _, ?_⟩
      refine (copyCheck_calls lays240 x72 R (hX0 _) e).mono ?_
      rintro z w' ⟨h', ι', e1, R', W', rfl⟩
      exact ⟨.ret (.tuple []), h', ι', e1, R', W', ⟨#[], rfl, trivial⟩⟩
theorem builder_String.call (hL : Laid base w0) (k : Nat) (hC : ∀ j, k = j + 1 → CallOk Try.prog T base w0 (env (α := α) j)) : FnOk Try.prog T base w0 (env (α := α) k) 42 := by
  intro X ι h w args xs κ out hX0 R hv e
  have e : env_42 k args κ h = some out := e
  unfold env_42 at e
  match args, hv, e with
  | [a0], hv, e =>
    obtain ⟨q, rfl, e⟩ := asP_inv e
    obtain ⟨b, rfl, e⟩ := asSome_inv e
    cases k with
    | zero => cases e
    | succ k =>
      have e : stringF 64 5 b (fun l => κ (.ret (.str l))) h = some out := e
      have hxs : xs = #[.pointer (some (b.to ι))] := by
        apply Array.ext'
        match hx : xs.toList, hv with
        | [x], hv => rw [show x = _ from hv.1.2]
      subst hxs
      refine .inr ⟨enter_of Try.func42 (by decide) (by kernel_rfl) _ _, ?_⟩
      refine (string_calls lays169 extra R (hX0 _) e).mono ?_
      rintro z w' ⟨l, h', ι', e1, R', W', rfl⟩
      exact ⟨.ret (.str l), h', ι', e1, R', W', ⟨_, rfl, by simp⟩⟩
theorem env_step (hL : Laid base w0) (k : Nat) (hC : ∀ j, k = j + 1 → CallOk Try.prog T base w0 (env (α := α) j)) : CallOk Try.prog T base w0 (env (α := α) k) := by
  intro X ι h w g args xs κ out hX0 R hv e
  by_cases h79 : g = 79
  · subst h79; exact bytealg_IndexByteString.call hL k hC X ι h w args xs κ out hX0 R hv e
  by_cases h67 : g = 67
  · subst h67; exact builder_copyCheck.call hL k hC X ι h w args xs κ out hX0 R hv e
  by_cases h42 : g = 42
  · subst h42; exact builder_String.call hL k hC X ι h w args xs κ out hX0 R hv e
  by_cases h70 : g = 70
  · subst h70; exact stringslite_IndexByte.call k hC X ι h w args xs κ out hX0 R hv e
  by_cases h59 : g = 59
  · subst h59; exact strings_IndexByte.call k hC X ι h w args xs κ out hX0 R hv e
  by_cases h71 : g = 71
  · subst h71; exact scan_kind.call k hC X ι h w args xs κ out hX0 R hv e
  by_cases h72 : g = 72
  · subst h72; exact scan_long.call k hC X ι h w args xs κ out hX0 R hv e
  by_cases h73 : g = 73
  · subst h73; exact scan_value.call k hC X ι h w args xs κ out hX0 R hv e
  by_cases h60 : g = 60
  · subst h60; exact scan_token.call k hC X ι h w args xs κ out hX0 R hv e
  by_cases h44 : g = 44
  · subst h44; exact scan_All.call k hC X ι h w args xs κ out hX0 R hv e
  by_cases h47 : g = 47
  · subst h47; exact syntax_Parse_c2.call k hC X ι h w args xs κ out hX0 R hv e
  by_cases h61 : g = 61
  · subst h61; exact slIT.call k hC X ι h w args xs κ out hX0 R hv e
  by_cases h46 : g = 46
  · subst h46; exact slDT.call k hC X ι h w args xs κ out hX0 R hv e
  by_cases h74 : g = 74
  · subst h74; exact spis.call k hC X ι h w args xs κ out hX0 R hv e
  by_cases h80 : g = 80
  · subst h80; exact spnext.call k hC X ι h w args xs κ out hX0 R hv e
  by_cases h75 : g = 75
  · subst h75; exact spmakes.call k hC X ι h w args xs κ out hX0 R hv e
  by_cases h76 : g = 76
  · subst h76; exact spnode.call k hC X ι h w args xs κ out hX0 R hv e
  by_cases h49 : g = 49
  · subst h49; exact spwrong.call k hC X ι h w args xs κ out hX0 R hv e
  by_cases h66 : g = 66
  · subst h66; exact syntax_word.call k hC X ι h w args xs κ out hX0 R hv e
  by_cases h82 : g = 82
  · subst h82; exact spneed.call k hC X ι h w args xs κ out hX0 R hv e
  by_cases h81 : g = 81
  · subst h81; exact spstep.call k hC X ι h w args xs κ out hX0 R hv e
  by_cases h48 : g = 48
  · subst h48; exact spformula.call k hC X ι h w args xs κ out hX0 R hv e
  by_cases h62 : g = 62
  · subst h62; exact sprow.call k hC X ι h w args xs κ out hX0 R hv e
  by_cases h63 : g = 63
  · subst h63; exact spand.call k hC X ι h w args xs κ out hX0 R hv e
  by_cases h77 : g = 77
  · subst h77; exact spunary.call k hC X ι h w args xs κ out hX0 R hv e
  by_cases h83 : g = 83
  · subst h83; exact spword.call k hC X ι h w args xs κ out hX0 R hv e
  by_cases h27 : g = 27
  · subst h27; exact syntax_Parse.call k hC X ι h w args xs κ out hX0 R hv e
  by_cases h65 : g = 65
  · subst h65; exact syntax_spelt.call k hC X ι h w args xs κ out hX0 R hv e
  by_cases h51 : g = 51
  · subst h51; exact syntax_name.call k hC X ι h w args xs κ out hX0 R hv e
  by_cases h52 : g = 52
  · subst h52; exact syntax_variable.call k hC X ι h w args xs κ out hX0 R hv e
  by_cases h36 : g = 36
  · subst h36; exact syntax_below.call k hC X ι h w args xs κ out hX0 R hv e
  by_cases h38 : g = 38
  · subst h38; exact syntax_Right_c1.call k hC X ι h w args xs κ out hX0 R hv e
  by_cases h53 : g = 53
  · subst h53; exact slII.call k hC X ι h w args xs κ out hX0 R hv e
  by_cases h37 : g = 37
  · subst h37; exact slices_ContainsFunc_int_int_38.call k hC X ι h w args xs κ out hX0 R hv e
  by_cases h39 : g = 39
  · subst h39; exact slEq.call k hC X ι h w args xs κ out hX0 R hv e
  by_cases h19 : g = 19
  · subst h19; exact syntax_Right.call k hC X ι h w args xs κ out hX0 R hv e
  by_cases h56 : g = 56
  · subst h56; exact strings_Builder_WriteString.call k hC X ι h w args xs κ out hX0 R hv e
  by_cases h68 : g = 68
  · subst h68; exact syntax_fix.call k hC X ι h w args xs κ out hX0 R hv e
  by_cases h41 : g = 41
  · subst h41; exact syntax_write.call k hC X ι h w args xs κ out hX0 R hv e
  by_cases h57 : g = 57
  · subst h57; exact syntax_operand.call k hC X ι h w args xs κ out hX0 R hv e
  by_cases h25 : g = 25
  · subst h25; exact syntax_Print.call k hC X ι h w args xs κ out hX0 R hv e
  by_cases h21 : g = 21
  · subst h21; exact w4shown.call k hC X ι h w args xs κ out hX0 R hv e
  by_cases h11 : g = 11
  · subst h11; exact w4SyntaxSteps.call k hC X ι h w args xs κ out hX0 R hv e
  exfalso
  have : env k g args κ h = none := by
    unfold env
    split <;> first | contradiction | rfl
  rw [this] at e
  cases e
theorem env_ok (hL : Laid base w0) : ∀ k : Nat, CallOk Try.prog T base w0 (env (α := α) k) := by
  intro k
  induction k with
  | zero => exact env_step hL 0 (fun j h => by cases h)
  | succ k ih => exact env_step hL (k + 1) (fun j h => by cases h; exact ih)
end Go.Ab.S3
