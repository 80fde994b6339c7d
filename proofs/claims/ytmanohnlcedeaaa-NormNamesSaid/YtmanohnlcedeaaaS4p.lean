import Derived.Test.YtmanohnlcedeaaaAb20
import Derived.Shelf.Strings.Builder1
import Derived.Test.YtmanohnlcedeaaaS4b
namespace Go.Ab.S4
open Go.Proofs
set_option linter.unusedVariables false
set_option linter.unusedSimpArgs false
variable {α : Type} {base : Nat} {w0 : World}
def Laid (base : Nat) (w0 : World) : Prop := True
theorem bytealg_IndexByteString.call (hL : Laid base w0) (k : Nat) (hC : ∀ j, k = j + 1 → CallOk Try.prog T base w0 (env (α := α) j)) : FnOk Try.prog T base w0 (env (α := α) k) 74 := by
  intro X ι h w args xs κ out hX0 R hv e
  have e : env_74 k args κ h = some out := e
  unfold env_74 at e
  match args, hv, e with
  | [a0, a1], hv, e =>
    obtain ⟨s, rfl, e1⟩ := asStr_inv e
    obtain ⟨c, rfl, e2⟩ := asI_inv e1
    cases k with
    | zero => cases e2
    | succ k =>
      have e2 : κ (.ret (.int .i64 (indexByte s c))) h = some out := e2
      obtain ⟨⟨b, hb, hs⟩, hc, hn⟩ : (∃ b : ByteArray, xs.toList[0]? = some (.string b) ∧ b.data.toList = s) ∧ xs.toList[1]? = some (.int .u8 c) ∧ xs.toList.length = 2 := by
        match hx : xs.toList, hv with
        | [x, y], hv =>
          obtain ⟨⟨b, h1, h2⟩, h3, _⟩ := hv
          exact ⟨⟨b, by rw [h1]; rfl, h2⟩, by rw [show y = _ from h3]; rfl, rfl⟩
      have hxs : xs = #[.string b, .int .u8 c] := by
        apply Array.ext'
        match hx : xs.toList with
        | [x, y] => rw [hx] at hb hc; simp at hb hc; rw [hb, hc]
        | [] => rw [hx] at hn; simp at hn
        | [_] => rw [hx] at hn; simp at hn
        | _ :: _ :: _ :: _ => rw [hx] at hn; simp at hn
      refine .inl ⟨_, .int .i64 (indexByte s c), h, ι, w, e2, ?_, R, Went.refl X ι h w, rfl⟩
      rw [run_callFunc_extern Try.func74 (by kernel_rfl) (by kernel_rfl) (by kernel_rfl) (by kernel_rfl : Extern.find Try.f74 = some Extern.BytealgIndexByte.indexByte), hxs, Lib.run_indexByteString]
      simp [indexByte, indexB_eq, hs]
theorem env_step (hL : Laid base w0) (k : Nat) (hC : ∀ j, k = j + 1 → CallOk Try.prog T base w0 (env (α := α) j)) : CallOk Try.prog T base w0 (env (α := α) k) := by
  intro X ι h w g args xs κ out hX0 R hv e
  by_cases h74 : g = 74
  · subst h74; exact bytealg_IndexByteString.call hL k hC X ι h w args xs κ out hX0 R hv e
  by_cases h64 : g = 64
  · subst h64; exact stringslite_IndexByte.call k hC X ι h w args xs κ out hX0 R hv e
  by_cases h50 : g = 50
  · subst h50; exact strings_IndexByte.call k hC X ι h w args xs κ out hX0 R hv e
  by_cases h65 : g = 65
  · subst h65; exact scan_kind.call k hC X ι h w args xs κ out hX0 R hv e
  by_cases h66 : g = 66
  · subst h66; exact scan_long.call k hC X ι h w args xs κ out hX0 R hv e
  by_cases h67 : g = 67
  · subst h67; exact scan_value.call k hC X ι h w args xs κ out hX0 R hv e
  by_cases h51 : g = 51
  · subst h51; exact scan_token.call k hC X ι h w args xs κ out hX0 R hv e
  by_cases h34 : g = 34
  · subst h34; exact scan_All.call k hC X ι h w args xs κ out hX0 R hv e
  by_cases h37 : g = 37
  · subst h37; exact syntax_Parse_c2.call k hC X ι h w args xs κ out hX0 R hv e
  by_cases h52 : g = 52
  · subst h52; exact slices_IndexFunc_Token_Token_37.call k hC X ι h w args xs κ out hX0 R hv e
  by_cases h36 : g = 36
  · subst h36; exact slices_DeleteFunc_Token_Token_37.call k hC X ι h w args xs κ out hX0 R hv e
  by_cases h68 : g = 68
  · subst h68; exact spis.call k hC X ι h w args xs κ out hX0 R hv e
  by_cases h75 : g = 75
  · subst h75; exact spnext.call k hC X ι h w args xs κ out hX0 R hv e
  by_cases h69 : g = 69
  · subst h69; exact spmakes.call k hC X ι h w args xs κ out hX0 R hv e
  by_cases h70 : g = 70
  · subst h70; exact spnode.call k hC X ι h w args xs κ out hX0 R hv e
  by_cases h39 : g = 39
  · subst h39; exact spwrong.call k hC X ι h w args xs κ out hX0 R hv e
  by_cases h63 : g = 63
  · subst h63; exact syntax_word.call k hC X ι h w args xs κ out hX0 R hv e
  by_cases h77 : g = 77
  · subst h77; exact spneed.call k hC X ι h w args xs κ out hX0 R hv e
  by_cases h76 : g = 76
  · subst h76; exact spstep.call k hC X ι h w args xs κ out hX0 R hv e
  by_cases h38 : g = 38
  · subst h38; exact spformula.call k hC X ι h w args xs κ out hX0 R hv e
  by_cases h53 : g = 53
  · subst h53; exact sprow.call k hC X ι h w args xs κ out hX0 R hv e
  by_cases h54 : g = 54
  · subst h54; exact spand.call k hC X ι h w args xs κ out hX0 R hv e
  by_cases h71 : g = 71
  · subst h71; exact spunary.call k hC X ι h w args xs κ out hX0 R hv e
  by_cases h78 : g = 78
  · subst h78; exact spword.call k hC X ι h w args xs κ out hX0 R hv e
  by_cases h21 : g = 21
  · subst h21; exact syntax_Parse.call k hC X ι h w args xs κ out hX0 R hv e
  by_cases h45 : g = 45
  · subst h45; exact slices_Clone_Node_Node.call k hC X ι h w args xs κ out hX0 R hv e
  by_cases h62 : g = 62
  · subst h62; exact syntax_spelt.call k hC X ι h w args xs κ out hX0 R hv e
  by_cases h47 : g = 47
  · subst h47; exact syntax_name.call k hC X ι h w args xs κ out hX0 R hv e
  by_cases h48 : g = 48
  · subst h48; exact syntax_variable.call k hC X ι h w args xs κ out hX0 R hv e
  by_cases h30 : g = 30
  · subst h30; exact syntax_below.call k hC X ι h w args xs κ out hX0 R hv e
  by_cases h32 : g = 32
  · subst h32; exact syntax_Right_c1.call k hC X ι h w args xs κ out hX0 R hv e
  by_cases h49 : g = 49
  · subst h49; exact slices_IndexFunc_int_int_32.call k hC X ι h w args xs κ out hX0 R hv e
  by_cases h31 : g = 31
  · subst h31; exact slices_ContainsFunc_int_int_32.call k hC X ι h w args xs κ out hX0 R hv e
  by_cases h33 : g = 33
  · subst h33; exact slEq.call k hC X ι h w args xs κ out hX0 R hv e
  by_cases h20 : g = 20
  · subst h20; exact syntax_Right.call k hC X ι h w args xs κ out hX0 R hv e
  by_cases h61 : g = 61
  · subst h61; exact bwfind.call k hC X ι h w args xs κ out hX0 R hv e
  by_cases h46 : g = 46
  · subst h46; exact bwnode.call k hC X ι h w args xs κ out hX0 R hv e
  by_cases h28 : g = 28
  · subst h28; exact bind_walked.call k hC X ι h w args xs κ out hX0 R hv e
  by_cases h29 : g = 29
  · subst h29; exact bind_fix.call k hC X ι h w args xs κ out hX0 R hv e
  by_cases h19 : g = 19
  · subst h19; exact bind_Check.call k hC X ι h w args xs κ out hX0 R hv e
  by_cases h27 : g = 27
  · subst h27; exact norm_wide.call k hC X ι h w args xs κ out hX0 R hv e
  by_cases h55 : g = 55
  · subst h55; exact norm_dual.call k hC X ι h w args xs κ out hX0 R hv e
  by_cases h40 : g = 40
  · subst h40; exact norm_maker_node.call k hC X ι h w args xs κ out hX0 R hv e
  by_cases h22 : g = 22
  · subst h22; exact norm_form.call k hC X ι h w args xs κ out hX0 R hv e
  by_cases h9 : g = 9
  · subst h9; exact norm_Positive.call k hC X ι h w args xs κ out hX0 R hv e
  by_cases h12 : g = 12
  · subst h12; exact r4Same.call k hC X ι h w args xs κ out hX0 R hv e
  by_cases h26 : g = 26
  · subst h26; exact norm_Is_c1.call k hC X ι h w args xs κ out hX0 R hv e
  by_cases h44 : g = 44
  · subst h44; exact slices_IndexFunc_Node_Node_26.call k hC X ι h w args xs κ out hX0 R hv e
  by_cases h25 : g = 25
  · subst h25; exact slices_ContainsFunc_Node_Node_26.call k hC X ι h w args xs κ out hX0 R hv e
  by_cases h15 : g = 15
  · subst h15; exact norm_Is.call k hC X ι h w args xs κ out hX0 R hv e
  by_cases h8 : g = 8
  · subst h8; exact w6shown.call k hC X ι h w args xs κ out hX0 R hv e
  by_cases h3 : g = 3
  · subst h3; exact w6NormNames.call k hC X ι h w args xs κ out hX0 R hv e
  by_cases h11 : g = 11
  · subst h11; exact norm_Negate.call k hC X ι h w args xs κ out hX0 R hv e
  exfalso
  have : env k g args κ h = none := by
    unfold env
    split <;> first | contradiction | rfl
  rw [this] at e
  cases e
theorem env_ok (hL : Laid base w0) : ∀ k : Nat, CallOk Try.prog T base w0 (env (α := α) k) := by
  intro k
  induction k with
  | zero => exact env_step hL 0 (fun j h => by cases h)
  | succ k ih => exact env_step hL (k + 1) (fun j h => by cases h; exact ih)
end Go.Ab.S4
