import Derived.Test.YtmanohnlcedeaaaAb15
import Derived.Test.YtmanohnlcedeaaaAb19
import Derived.Test.YtmanohnlcedeaaaS4a
namespace Go.Ab.S4
section
variable {α : Type}
open Go.Proofs
set_option linter.unusedVariables false
set_option linter.unusedSimpArgs false
variable {base : Nat} {w0 : World}
theorem wide_ok : Try.prog.follows .mixedOrders = true := by kernel_rfl
theorem ti3 {i : TI} (h : ti 3 = some i) : TIOk Try.prog 3 i := by
  cases h
  exact TIOk.of 116 Try.underlying3 Try.type3 rfl rfl rfl rfl rfl rfl rfl rfl rfl Try.types_size rfl (nofun)
theorem ti4 {i : TI} (h : ti 4 = some i) : TIOk Try.prog 4 i := by
  cases h
  exact TIOk.of 116 Try.underlying4 Try.type4 rfl rfl rfl rfl rfl rfl rfl rfl rfl Try.types_size rfl (nofun)
theorem ti5 {i : TI} (h : ti 5 = some i) : TIOk Try.prog 5 i := by
  cases h
  exact TIOk.of 116 Try.underlying5 Try.type5 rfl rfl rfl rfl rfl rfl rfl rfl rfl Try.types_size rfl (nofun)
theorem ti9 {i : TI} (h : ti 9 = some i) : TIOk Try.prog 9 i := by
  cases h
  exact TIOk.of 116 Try.underlying9 Try.type9 rfl rfl rfl rfl rfl rfl rfl rfl rfl Try.types_size rfl (nofun)
theorem ti20 {i : TI} (h : ti 20 = some i) : TIOk Try.prog 20 i := by
  cases h
  exact TIOk.of 116 Try.underlying20 Try.type20 rfl rfl rfl rfl rfl rfl rfl rfl rfl Try.types_size rfl (nofun)
theorem ti22 {i : TI} (h : ti 22 = some i) : TIOk Try.prog 22 i := by
  cases h
  exact TIOk.of 116 Try.underlying22 Try.type22 rfl rfl rfl rfl rfl rfl rfl rfl rfl Try.types_size rfl (nofun)
theorem ti25 {i : TI} (h : ti 25 = some i) : TIOk Try.prog 25 i := by
  cases h
  exact TIOk.of 116 Try.underlying25 Try.type25 rfl rfl rfl rfl rfl rfl rfl rfl trivial Try.types_size rfl (fun _ => plain_struct Try.underlying25 Try.stoodInHeld25 Try.eqGuardType25 ⟨by decide, rfl, Try.underlying3, ⟨by decide, rfl, Try.underlying3, ⟨by decide, rfl, Try.underlying3, ⟨by decide, rfl, Try.underlying9, ⟨by decide, rfl, Try.underlying3, trivial⟩⟩⟩⟩⟩)
theorem ti31 {i : TI} (h : ti 31 = some i) : TIOk Try.prog 31 i := by
  cases h
  exact TIOk.of 116 Try.underlying31 Try.type31 rfl rfl rfl rfl rfl rfl rfl rfl rfl Try.types_size rfl (nofun)
theorem ti35 {i : TI} (h : ti 35 = some i) : TIOk Try.prog 35 i := by
  cases h
  exact TIOk.of 116 Try.underlying35 Try.type35 rfl rfl rfl rfl rfl rfl rfl rfl rfl Try.types_size rfl (nofun)
theorem ti44 {i : TI} (h : ti 44 = some i) : TIOk Try.prog 44 i := by
  cases h
  exact TIOk.of 116 Try.underlying44 Try.type44 rfl rfl rfl rfl rfl rfl rfl rfl rfl Try.types_size rfl (nofun)
theorem ti45 {i : TI} (h : ti 45 = some i) : TIOk Try.prog 45 i := by
  cases h
  exact TIOk.of 116 Try.underlying45 Try.type45 rfl rfl rfl rfl rfl rfl rfl rfl rfl Try.types_size rfl (nofun)
theorem ti46 {i : TI} (h : ti 46 = some i) : TIOk Try.prog 46 i := by
  cases h
  exact TIOk.of 116 Try.underlying46 Try.type46 rfl rfl rfl rfl rfl rfl rfl rfl rfl Try.types_size rfl (nofun)
theorem ti47 {i : TI} (h : ti 47 = some i) : TIOk Try.prog 47 i := by
  cases h
  exact TIOk.of 116 Try.underlying47 Try.type47 rfl rfl rfl rfl rfl rfl rfl rfl rfl Try.types_size rfl (nofun)
theorem ti49 {i : TI} (h : ti 49 = some i) : TIOk Try.prog 49 i := by
  cases h
  exact TIOk.of 116 Try.underlying49 Try.type49 rfl rfl rfl rfl rfl rfl rfl rfl trivial Try.types_size rfl (nofun)
theorem ti55 {i : TI} (h : ti 55 = some i) : TIOk Try.prog 55 i := by
  cases h
  exact TIOk.of 116 Try.underlying55 Try.type55 rfl rfl rfl rfl rfl rfl rfl rfl rfl Try.types_size rfl (nofun)
theorem ti59 {i : TI} (h : ti 59 = some i) : TIOk Try.prog 59 i := by
  cases h
  exact TIOk.of 116 Try.underlying59 Try.type59 rfl rfl rfl rfl rfl rfl rfl rfl trivial Try.types_size rfl (fun _ => plain_struct Try.underlying59 Try.stoodInHeld59 Try.eqGuardType59 ⟨by decide, rfl, Try.underlying3, ⟨by decide, rfl, Try.underlying31, trivial⟩⟩)
theorem ti61 {i : TI} (h : ti 61 = some i) : TIOk Try.prog 61 i := by
  cases h
  exact TIOk.of 116 Try.underlying61 Try.type61 rfl rfl rfl rfl rfl rfl rfl rfl trivial Try.types_size rfl (nofun)
theorem ti62 {i : TI} (h : ti 62 = some i) : TIOk Try.prog 62 i := by
  cases h
  exact TIOk.of 116 Try.underlying62 Try.type62 rfl rfl rfl rfl rfl rfl rfl rfl rfl Try.types_size rfl (nofun)
theorem ti66 {i : TI} (h : ti 66 = some i) : TIOk Try.prog 66 i := by
  cases h
  exact TIOk.of 116 Try.underlying66 Try.type66 rfl rfl rfl rfl rfl rfl rfl rfl trivial Try.types_size rfl (fun _ => plain_struct Try.underlying66 Try.stoodInHeld66 Try.eqGuardType66 ⟨by decide, rfl, Try.underlying3, ⟨by decide, rfl, Try.underlying3, ⟨by decide, rfl, Try.underlying9, ⟨by decide, rfl, Try.underlying3, trivial⟩⟩⟩⟩)
theorem ti69 {i : TI} (h : ti 69 = some i) : TIOk Try.prog 69 i := by
  cases h
  exact TIOk.of 116 Try.underlying69 Try.type69 rfl rfl rfl rfl rfl rfl rfl rfl trivial Try.types_size rfl (nofun)
theorem ti73 {i : TI} (h : ti 73 = some i) : TIOk Try.prog 73 i := by
  cases h
  exact TIOk.of 116 Try.underlying73 Try.type73 rfl rfl rfl rfl rfl rfl rfl rfl trivial Try.types_size rfl (nofun)
theorem ti89 {i : TI} (h : ti 89 = some i) : TIOk Try.prog 89 i := by
  cases h
  exact TIOk.of 116 Try.underlying89 Try.type89 rfl rfl rfl rfl rfl rfl rfl rfl trivial Try.types_size rfl (fun _ => plain_struct Try.underlying89 Try.stoodInHeld89 Try.eqGuardType89 ⟨by decide, rfl, Try.underlying3, ⟨by decide, rfl, Try.underlying3, trivial⟩⟩)
theorem tab_ok : TabOk Try.prog T := by
  refine ⟨fun t i h => ?_⟩
  by_cases h3 : t = 3
  · subst h3; exact ti3 h
  by_cases h4 : t = 4
  · subst h4; exact ti4 h
  by_cases h5 : t = 5
  · subst h5; exact ti5 h
  by_cases h9 : t = 9
  · subst h9; exact ti9 h
  by_cases h20 : t = 20
  · subst h20; exact ti20 h
  by_cases h22 : t = 22
  · subst h22; exact ti22 h
  by_cases h25 : t = 25
  · subst h25; exact ti25 h
  by_cases h31 : t = 31
  · subst h31; exact ti31 h
  by_cases h35 : t = 35
  · subst h35; exact ti35 h
  by_cases h44 : t = 44
  · subst h44; exact ti44 h
  by_cases h45 : t = 45
  · subst h45; exact ti45 h
  by_cases h46 : t = 46
  · subst h46; exact ti46 h
  by_cases h47 : t = 47
  · subst h47; exact ti47 h
  by_cases h49 : t = 49
  · subst h49; exact ti49 h
  by_cases h55 : t = 55
  · subst h55; exact ti55 h
  by_cases h59 : t = 59
  · subst h59; exact ti59 h
  by_cases h61 : t = 61
  · subst h61; exact ti61 h
  by_cases h62 : t = 62
  · subst h62; exact ti62 h
  by_cases h66 : t = 66
  · subst h66; exact ti66 h
  by_cases h69 : t = 69
  · subst h69; exact ti69 h
  by_cases h73 : t = 73
  · subst h73; exact ti73 h
  by_cases h89 : t = 89
  · subst h89; exact ti89 h
  have : ti t = none := by
    unfold ti
    split <;> first | rfl | contradiction
  rw [show T.ti t = ti t from rfl, this] at h
  cases h
theorem stringslite_IndexByte.call (k : Nat) (hC : ∀ j, k = j + 1 → CallOk Try.prog T base w0 (env (α := α) j)) : FnOk Try.prog T base w0 (env (α := α) k) 64 := by
  intro X ι h w args xs κ out hX0 R hv e
  have e : env_64 k args κ h = some out := e
  unfold env_64 at e
  match args, hv, e with
  | [a0, a1], hv, e =>
    obtain ⟨_, rfl, e1⟩ := asStr_inv e
    obtain ⟨_, rfl, e2⟩ := asI_inv e1
    cases k with
    | zero => cases e2
    | succ k =>
      exact func_ok wide_ok hX0 tab_ok (hC k rfl) Try.func64 (by kernel_rfl : Try.f64.body = some stringslite_IndexByte.c.code) (by decide) (by kernel_rfl : Try.f64.results.toList = stringslite_IndexByte.res) (by kernel_rfl : icOk T Try.f64.ntmps stringslite_IndexByte.c = true) R (fun i h => absurd h (hX0 i)) hv (Nat.le_of_ble_eq_true rfl) ((congrFun (stringslite_IndexByte.ok k _ _ κ) h).trans e2)
theorem strings_IndexByte.call (k : Nat) (hC : ∀ j, k = j + 1 → CallOk Try.prog T base w0 (env (α := α) j)) : FnOk Try.prog T base w0 (env (α := α) k) 50 := by
  intro X ι h w args xs κ out hX0 R hv e
  have e : env_50 k args κ h = some out := e
  unfold env_50 at e
  match args, hv, e with
  | [a0, a1], hv, e =>
    obtain ⟨_, rfl, e1⟩ := asStr_inv e
    obtain ⟨_, rfl, e2⟩ := asI_inv e1
    cases k with
    | zero => cases e2
    | succ k =>
      exact func_ok wide_ok hX0 tab_ok (hC k rfl) Try.func50 (by kernel_rfl : Try.f50.body = some strings_IndexByte.c.code) (by decide) (by kernel_rfl : Try.f50.results.toList = strings_IndexByte.res) (by kernel_rfl : icOk T Try.f50.ntmps strings_IndexByte.c = true) R (fun i h => absurd h (hX0 i)) hv (Nat.le_of_ble_eq_true rfl) ((congrFun (strings_IndexByte.ok k _ _ κ) h).trans e2)
theorem scan_kind.call (k : Nat) (hC : ∀ j, k = j + 1 → CallOk Try.prog T base w0 (env (α := α) j)) : FnOk Try.prog T base w0 (env (α := α) k) 65 := by
  intro X ι h w args xs κ out hX0 R hv e
  have e : env_65 k args κ h = some out := e
  unfold env_65 at e
  match args, hv, e with
  | [a0], hv, e =>
    obtain ⟨_, rfl, e1⟩ := asI_inv e
    cases k with
    | zero => cases e1
    | succ k =>
      exact func_ok wide_ok hX0 tab_ok (hC k rfl) Try.func65 (by kernel_rfl : Try.f65.body = some scan_kind.c.code) (by decide) (by kernel_rfl : Try.f65.results.toList = scan_kind.res) (by kernel_rfl : icOk T Try.f65.ntmps scan_kind.c = true) R (fun i h => absurd h (hX0 i)) hv (Nat.le_of_ble_eq_true rfl) ((congrFun (scan_kind.ok k _ κ) h).trans e1)
theorem scan_long.call (k : Nat) (hC : ∀ j, k = j + 1 → CallOk Try.prog T base w0 (env (α := α) j)) : FnOk Try.prog T base w0 (env (α := α) k) 66 := by
  intro X ι h w args xs κ out hX0 R hv e
  have e : env_66 k args κ h = some out := e
  unfold env_66 at e
  match args, hv, e with
  | [a0, a1], hv, e =>
    obtain ⟨_, rfl, e1⟩ := asI_inv e
    obtain ⟨_, rfl, e2⟩ := asStr_inv e1
    cases k with
    | zero => cases e2
    | succ k =>
      exact func_ok wide_ok hX0 tab_ok (hC k rfl) Try.func66 (by kernel_rfl : Try.f66.body = some scan_long.c.code) (by decide) (by kernel_rfl : Try.f66.results.toList = scan_long.res) (by kernel_rfl : icOk T Try.f66.ntmps scan_long.c = true) R (fun i h => absurd h (hX0 i)) hv (Nat.le_of_ble_eq_true rfl) ((congrFun (scan_long.ok k _ _ κ) h).trans e2)
theorem scan_value.call (k : Nat) (hC : ∀ j, k = j + 1 → CallOk Try.prog T base w0 (env (α := α) j)) : FnOk Try.prog T base w0 (env (α := α) k) 67 := by
  intro X ι h w args xs κ out hX0 R hv e
  have e : env_67 k args κ h = some out := e
  unfold env_67 at e
  match args, hv, e with
  | [a0], hv, e =>
    obtain ⟨_, rfl, e1⟩ := asStr_inv e
    cases k with
    | zero => cases e1
    | succ k =>
      exact func_ok wide_ok hX0 tab_ok (hC k rfl) Try.func67 (by kernel_rfl : Try.f67.body = some scan_value.c.code) (by decide) (by kernel_rfl : Try.f67.results.toList = scan_value.res) (by kernel_rfl : icOk T Try.f67.ntmps scan_value.c = true) R (fun i h => absurd h (hX0 i)) hv (Nat.le_of_ble_eq_true rfl) ((congrFun (scan_value.ok k _ κ) h).trans e1)
theorem scan_token.call (k : Nat) (hC : ∀ j, k = j + 1 → CallOk Try.prog T base w0 (env (α := α) j)) : FnOk Try.prog T base w0 (env (α := α) k) 51 := by
  intro X ι h w args xs κ out hX0 R hv e
  have e : env_51 k args κ h = some out := e
  unfold env_51 at e
  match args, hv, e with
  | [a0, a1], hv, e =>
    obtain ⟨_, rfl, e1⟩ := asStr_inv e
    obtain ⟨_, rfl, e2⟩ := asI_inv e1
    cases k with
    | zero => cases e2
    | succ k =>
      exact func_ok wide_ok hX0 tab_ok (hC k rfl) Try.func51 (by kernel_rfl : Try.f51.body = some scan_token.c.code) (by decide) (by kernel_rfl : Try.f51.results.toList = scan_token.res) (by kernel_rfl : icOk T Try.f51.ntmps scan_token.c = true) R (fun i h => absurd h (hX0 i)) hv (Nat.le_of_ble_eq_true rfl) ((congrFun (scan_token.ok k _ _ κ) h).trans e2)
theorem scan_All.call (k : Nat) (hC : ∀ j, k = j + 1 → CallOk Try.prog T base w0 (env (α := α) j)) : FnOk Try.prog T base w0 (env (α := α) k) 34 := by
  intro X ι h w args xs κ out hX0 R hv e
  have e : env_34 k args κ h = some out := e
  unfold env_34 at e
  match args, hv, e with
  | [a0], hv, e =>
    obtain ⟨_, rfl, e1⟩ := asStr_inv e
    cases k with
    | zero => cases e1
    | succ k =>
      exact func_ok wide_ok hX0 tab_ok (hC k rfl) Try.func34 (by kernel_rfl : Try.f34.body = some scan_All.c.code) (by decide) (by kernel_rfl : Try.f34.results.toList = scan_All.res) (by kernel_rfl : icOk T Try.f34.ntmps scan_All.c = true) R (fun i h => absurd h (hX0 i)) hv (Nat.le_of_ble_eq_true rfl) ((congrFun (scan_All.ok k _ κ) h).trans e1)
theorem syntax_Parse_c2.call (k : Nat) (hC : ∀ j, k = j + 1 → CallOk Try.prog T base w0 (env (α := α) j)) : FnOk Try.prog T base w0 (env (α := α) k) 37 := by
  intro X ι h w args xs κ out hX0 R hv e
  have e : env_37 k args κ h = some out := e
  unfold env_37 at e
  match args, hv, e with
  | [a0], hv, e =>
    obtain ⟨_, rfl, e1⟩ := asAgg_inv e
    obtain ⟨_, _, rfl, e2⟩ := uncons_inv e1
    obtain ⟨_, rfl, e3⟩ := asI_inv e2
    obtain ⟨_, _, rfl, e4⟩ := uncons_inv e3
    obtain ⟨_, rfl, e5⟩ := asI_inv e4
    obtain ⟨_, _, rfl, e6⟩ := uncons_inv e5
    obtain ⟨_, rfl, e7⟩ := asStr_inv e6
    obtain ⟨_, _, rfl, e8⟩ := uncons_inv e7
    obtain ⟨_, rfl, e9⟩ := asI_inv e8
    obtain ⟨rfl, e10⟩ := unnil_inv e9
    cases k with
    | zero => cases e10
    | succ k =>
      exact func_ok wide_ok hX0 tab_ok (hC k rfl) Try.func37 (by kernel_rfl : Try.f37.body = some syntax_Parse_c2.c.code) (by decide) (by kernel_rfl : Try.f37.results.toList = syntax_Parse_c2.res) (by kernel_rfl : icOk T Try.f37.ntmps syntax_Parse_c2.c = true) R (fun i h => absurd h (hX0 i)) hv (Nat.le_of_ble_eq_true rfl) ((congrFun (syntax_Parse_c2.ok k _ _ _ _ κ) h).trans e10)
theorem slices_IndexFunc_Token_Token_37.call (k : Nat) (hC : ∀ j, k = j + 1 → CallOk Try.prog T base w0 (env (α := α) j)) : FnOk Try.prog T base w0 (env (α := α) k) 52 := by
  intro X ι h w args xs κ out hX0 R hv e
  have e : env_52 k args κ h = some out := e
  unfold env_52 at e
  match args, hv, e with
  | [a0, a1], hv, e =>
    obtain ⟨_, rfl, e1⟩ := asS_inv e
    obtain ⟨_, _, _, rfl, e2⟩ := asFunc_inv e1
    obtain ⟨hbe3, e3⟩ := need_inv e2
    obtain rfl := Nat.eq_of_beq_eq_true hbe3
    obtain ⟨rfl, e4⟩ := unnil_inv e3
    obtain ⟨rfl, e5⟩ := unnil_inv e4
    cases k with
    | zero => cases e5
    | succ k =>
      exact func_ok wide_ok hX0 tab_ok (hC k rfl) Try.func52 (by kernel_rfl : Try.f52.body = some slices_IndexFunc_Token_Token_37.c.code) (by decide) (by kernel_rfl : Try.f52.results.toList = slices_IndexFunc_Token_Token_37.res) (by kernel_rfl : icOk T Try.f52.ntmps slices_IndexFunc_Token_Token_37.c = true) R (fun i h => absurd h (hX0 i)) hv (Nat.le_of_ble_eq_true rfl) ((congrFun (slices_IndexFunc_Token_Token_37.ok k _ κ) h).trans e5)
theorem slices_DeleteFunc_Token_Token_37.call (k : Nat) (hC : ∀ j, k = j + 1 → CallOk Try.prog T base w0 (env (α := α) j)) : FnOk Try.prog T base w0 (env (α := α) k) 36 := by
  intro X ι h w args xs κ out hX0 R hv e
  have e : env_36 k args κ h = some out := e
  unfold env_36 at e
  match args, hv, e with
  | [a0, a1], hv, e =>
    obtain ⟨_, rfl, e1⟩ := asS_inv e
    obtain ⟨_, _, _, rfl, e2⟩ := asFunc_inv e1
    obtain ⟨hbe3, e3⟩ := need_inv e2
    obtain rfl := Nat.eq_of_beq_eq_true hbe3
    obtain ⟨rfl, e4⟩ := unnil_inv e3
    obtain ⟨rfl, e5⟩ := unnil_inv e4
    cases k with
    | zero => cases e5
    | succ k =>
      exact func_ok wide_ok hX0 tab_ok (hC k rfl) Try.func36 (by kernel_rfl : Try.f36.body = some slices_DeleteFunc_Token_Token_37.c.code) (by decide) (by kernel_rfl : Try.f36.results.toList = slices_DeleteFunc_Token_Token_37.res) (by kernel_rfl : icOk T Try.f36.ntmps slices_DeleteFunc_Token_Token_37.c = true) R (fun i h => absurd h (hX0 i)) hv (Nat.le_of_ble_eq_true rfl) ((congrFun (slices_DeleteFunc_Token_Token_37.ok k _ κ) h).trans e5)
theorem spis.call (k : Nat) (hC : ∀ j, k = j + 1 → CallOk Try.prog T base w0 (env (α := α) j)) : FnOk Try.prog T base w0 (env (α := α) k) 68 := by
  intro X ι h w args xs κ out hX0 R hv e
  have e : env_68 k args κ h = some out := e
  unfold env_68 at e
  match args, hv, e with
  | [a0, a1], hv, e =>
    obtain ⟨_, rfl, e1⟩ := asP_inv e
    obtain ⟨_, rfl, e2⟩ := asSome_inv e1
    obtain ⟨_, rfl, e3⟩ := asStr_inv e2
    cases k with
    | zero => cases e3
    | succ k =>
      exact func_ok wide_ok hX0 tab_ok (hC k rfl) Try.func68 (by kernel_rfl : Try.f68.body = some spis.c.code) (by decide) (by kernel_rfl : Try.f68.results.toList = spis.res) (by kernel_rfl : icOk T Try.f68.ntmps spis.c = true) R (fun i h => absurd h (hX0 i)) hv (Nat.le_of_ble_eq_true rfl) ((congrFun (spis.ok k _ _ κ) h).trans e3)
theorem spnext.call (k : Nat) (hC : ∀ j, k = j + 1 → CallOk Try.prog T base w0 (env (α := α) j)) : FnOk Try.prog T base w0 (env (α := α) k) 75 := by
  intro X ι h w args xs κ out hX0 R hv e
  have e : env_75 k args κ h = some out := e
  unfold env_75 at e
  match args, hv, e with
  | [a0], hv, e =>
    obtain ⟨_, rfl, e1⟩ := asP_inv e
    obtain ⟨_, rfl, e2⟩ := asSome_inv e1
    cases k with
    | zero => cases e2
    | succ k =>
      exact func_ok wide_ok hX0 tab_ok (hC k rfl) Try.func75 (by kernel_rfl : Try.f75.body = some spnext.c.code) (by decide) (by kernel_rfl : Try.f75.results.toList = spnext.res) (by kernel_rfl : icOk T Try.f75.ntmps spnext.c = true) R (fun i h => absurd h (hX0 i)) hv (Nat.le_of_ble_eq_true rfl) ((congrFun (spnext.ok k _ κ) h).trans e2)
theorem spmakes.call (k : Nat) (hC : ∀ j, k = j + 1 → CallOk Try.prog T base w0 (env (α := α) j)) : FnOk Try.prog T base w0 (env (α := α) k) 69 := by
  intro X ι h w args xs κ out hX0 R hv e
  have e : env_69 k args κ h = some out := e
  unfold env_69 at e
  match args, hv, e with
  | [a0], hv, e =>
    obtain ⟨_, rfl, e1⟩ := asP_inv e
    obtain ⟨_, rfl, e2⟩ := asSome_inv e1
    cases k with
    | zero => cases e2
    | succ k =>
      exact func_ok wide_ok hX0 tab_ok (hC k rfl) Try.func69 (by kernel_rfl : Try.f69.body = some spmakes.c.code) (by decide) (by kernel_rfl : Try.f69.results.toList = spmakes.res) (by kernel_rfl : icOk T Try.f69.ntmps spmakes.c = true) R (fun i h => absurd h (hX0 i)) hv (Nat.le_of_ble_eq_true rfl) ((congrFun (spmakes.ok k _ κ) h).trans e2)
theorem spnode.call (k : Nat) (hC : ∀ j, k = j + 1 → CallOk Try.prog T base w0 (env (α := α) j)) : FnOk Try.prog T base w0 (env (α := α) k) 70 := by
  intro X ι h w args xs κ out hX0 R hv e
  have e : env_70 k args κ h = some out := e
  unfold env_70 at e
  match args, hv, e with
  | [a0, a1], hv, e =>
    obtain ⟨_, rfl, e1⟩ := asP_inv e
    obtain ⟨_, rfl, e2⟩ := asSome_inv e1
    obtain ⟨_, rfl, e3⟩ := asAgg_inv e2
    obtain ⟨_, _, rfl, e4⟩ := uncons_inv e3
    obtain ⟨_, rfl, e5⟩ := asI_inv e4
    obtain ⟨_, _, rfl, e6⟩ := uncons_inv e5
    obtain ⟨_, rfl, e7⟩ := asI_inv e6
    obtain ⟨_, _, rfl, e8⟩ := uncons_inv e7
    obtain ⟨_, rfl, e9⟩ := asI_inv e8
    obtain ⟨_, _, rfl, e10⟩ := uncons_inv e9
    obtain ⟨_, rfl, e11⟩ := asStr_inv e10
    obtain ⟨_, _, rfl, e12⟩ := uncons_inv e11
    obtain ⟨_, rfl, e13⟩ := asI_inv e12
    obtain ⟨rfl, e14⟩ := unnil_inv e13
    cases k with
    | zero => cases e14
    | succ k =>
      exact func_ok wide_ok hX0 tab_ok (hC k rfl) Try.func70 (by kernel_rfl : Try.f70.body = some spnode.c.code) (by decide) (by kernel_rfl : Try.f70.results.toList = spnode.res) (by kernel_rfl : icOk T Try.f70.ntmps spnode.c = true) R (fun i h => absurd h (hX0 i)) hv (Nat.le_of_ble_eq_true rfl) ((congrFun (spnode.ok k _ _ _ _ _ _ κ) h).trans e14)
theorem spwrong.call (k : Nat) (hC : ∀ j, k = j + 1 → CallOk Try.prog T base w0 (env (α := α) j)) : FnOk Try.prog T base w0 (env (α := α) k) 39 := by
  intro X ι h w args xs κ out hX0 R hv e
  have e : env_39 k args κ h = some out := e
  unfold env_39 at e
  match args, hv, e with
  | [a0], hv, e =>
    obtain ⟨_, rfl, e1⟩ := asP_inv e
    obtain ⟨_, rfl, e2⟩ := asSome_inv e1
    cases k with
    | zero => cases e2
    | succ k =>
      exact func_ok wide_ok hX0 tab_ok (hC k rfl) Try.func39 (by kernel_rfl : Try.f39.body = some spwrong.c.code) (by decide) (by kernel_rfl : Try.f39.results.toList = spwrong.res) (by kernel_rfl : icOk T Try.f39.ntmps spwrong.c = true) R (fun i h => absurd h (hX0 i)) hv (Nat.le_of_ble_eq_true rfl) ((congrFun (spwrong.ok k _ κ) h).trans e2)
theorem syntax_word.call (k : Nat) (hC : ∀ j, k = j + 1 → CallOk Try.prog T base w0 (env (α := α) j)) : FnOk Try.prog T base w0 (env (α := α) k) 63 := by
  intro X ι h w args xs κ out hX0 R hv e
  have e : env_63 k args κ h = some out := e
  unfold env_63 at e
  match args, hv, e with
  | [a0], hv, e =>
    obtain ⟨_, rfl, e1⟩ := asStr_inv e
    cases k with
    | zero => cases e1
    | succ k =>
      exact func_ok wide_ok hX0 tab_ok (hC k rfl) Try.func63 (by kernel_rfl : Try.f63.body = some syntax_word.c.code) (by decide) (by kernel_rfl : Try.f63.results.toList = syntax_word.res) (by kernel_rfl : icOk T Try.f63.ntmps syntax_word.c = true) R (fun i h => absurd h (hX0 i)) hv (Nat.le_of_ble_eq_true rfl) ((congrFun (syntax_word.ok k _ κ) h).trans e1)
theorem spneed.call (k : Nat) (hC : ∀ j, k = j + 1 → CallOk Try.prog T base w0 (env (α := α) j)) : FnOk Try.prog T base w0 (env (α := α) k) 77 := by
  intro X ι h w args xs κ out hX0 R hv e
  have e : env_77 k args κ h = some out := e
  unfold env_77 at e
  match args, hv, e with
  | [a0, a1], hv, e =>
    obtain ⟨_, rfl, e1⟩ := asP_inv e
    obtain ⟨_, rfl, e2⟩ := asSome_inv e1
    obtain ⟨_, rfl, e3⟩ := asStr_inv e2
    cases k with
    | zero => cases e3
    | succ k =>
      exact func_ok wide_ok hX0 tab_ok (hC k rfl) Try.func77 (by kernel_rfl : Try.f77.body = some spneed.c.code) (by decide) (by kernel_rfl : Try.f77.results.toList = spneed.res) (by kernel_rfl : icOk T Try.f77.ntmps spneed.c = true) R (fun i h => absurd h (hX0 i)) hv (Nat.le_of_ble_eq_true rfl) ((congrFun (spneed.ok k _ _ κ) h).trans e3)
theorem spstep.call (k : Nat) (hC : ∀ j, k = j + 1 → CallOk Try.prog T base w0 (env (α := α) j)) : FnOk Try.prog T base w0 (env (α := α) k) 76 := by
  intro X ι h w args xs κ out hX0 R hv e
  have e : env_76 k args κ h = some out := e
  unfold env_76 at e
  match args, hv, e with
  | [a0, a1], hv, e =>
    obtain ⟨_, rfl, e1⟩ := asP_inv e
    obtain ⟨_, rfl, e2⟩ := asSome_inv e1
    obtain ⟨_, rfl, e3⟩ := asStr_inv e2
    cases k with
    | zero => cases e3
    | succ k =>
      exact func_ok wide_ok hX0 tab_ok (hC k rfl) Try.func76 (by kernel_rfl : Try.f76.body = some spstep.c.code) (by decide) (by kernel_rfl : Try.f76.results.toList = spstep.res) (by kernel_rfl : icOk T Try.f76.ntmps spstep.c = true) R (fun i h => absurd h (hX0 i)) hv (Nat.le_of_ble_eq_true rfl) ((congrFun (spstep.ok k _ _ κ) h).trans e3)
theorem spformula.call (k : Nat) (hC : ∀ j, k = j + 1 → CallOk Try.prog T base w0 (env (α := α) j)) : FnOk Try.prog T base w0 (env (α := α) k) 38 := by
  intro X ι h w args xs κ out hX0 R hv e
  have e : env_38 k args κ h = some out := e
  unfold env_38 at e
  match args, hv, e with
  | [a0], hv, e =>
    obtain ⟨_, rfl, e1⟩ := asP_inv e
    obtain ⟨_, rfl, e2⟩ := asSome_inv e1
    cases k with
    | zero => cases e2
    | succ k =>
      exact func_ok wide_ok hX0 tab_ok (hC k rfl) Try.func38 (by kernel_rfl : Try.f38.body = some spformula.c.code) (by decide) (by kernel_rfl : Try.f38.results.toList = spformula.res) (by kernel_rfl : icOk T Try.f38.ntmps spformula.c = true) R (fun i h => absurd h (hX0 i)) hv (Nat.le_of_ble_eq_true rfl) ((congrFun (spformula.ok k _ κ) h).trans e2)
theorem sprow.call (k : Nat) (hC : ∀ j, k = j + 1 → CallOk Try.prog T base w0 (env (α := α) j)) : FnOk Try.prog T base w0 (env (α := α) k) 53 := by
  intro X ι h w args xs κ out hX0 R hv e
  have e : env_53 k args κ h = some out := e
  unfold env_53 at e
  match args, hv, e with
  | [a0, a1, a2, a3], hv, e =>
    obtain ⟨_, rfl, e1⟩ := asP_inv e
    obtain ⟨_, rfl, e2⟩ := asSome_inv e1
    obtain ⟨_, rfl, e3⟩ := asStr_inv e2
    obtain ⟨_, rfl, e4⟩ := asI_inv e3
    cases k with
    | zero => cases e4
    | succ k =>
      exact func_ok wide_ok hX0 tab_ok (hC k rfl) Try.func53 (by kernel_rfl : Try.f53.body = some sprow.c.code) (by decide) (by kernel_rfl : Try.f53.results.toList = sprow.res) (by kernel_rfl : icOk T Try.f53.ntmps sprow.c = true) R (fun i h => absurd h (hX0 i)) hv (Nat.le_of_ble_eq_true rfl) ((congrFun (sprow.ok k _ _ _ _ κ) h).trans e4)
theorem spand.call (k : Nat) (hC : ∀ j, k = j + 1 → CallOk Try.prog T base w0 (env (α := α) j)) : FnOk Try.prog T base w0 (env (α := α) k) 54 := by
  intro X ι h w args xs κ out hX0 R hv e
  have e : env_54 k args κ h = some out := e
  unfold env_54 at e
  match args, hv, e with
  | [a0], hv, e =>
    obtain ⟨_, rfl, e1⟩ := asP_inv e
    obtain ⟨_, rfl, e2⟩ := asSome_inv e1
    cases k with
    | zero => cases e2
    | succ k =>
      exact func_ok wide_ok hX0 tab_ok (hC k rfl) Try.func54 (by kernel_rfl : Try.f54.body = some spand.c.code) (by decide) (by kernel_rfl : Try.f54.results.toList = spand.res) (by kernel_rfl : icOk T Try.f54.ntmps spand.c = true) R (fun i h => absurd h (hX0 i)) hv (Nat.le_of_ble_eq_true rfl) ((congrFun (spand.ok k _ κ) h).trans e2)
theorem spunary.call (k : Nat) (hC : ∀ j, k = j + 1 → CallOk Try.prog T base w0 (env (α := α) j)) : FnOk Try.prog T base w0 (env (α := α) k) 71 := by
  intro X ι h w args xs κ out hX0 R hv e
  have e : env_71 k args κ h = some out := e
  unfold env_71 at e
  match args, hv, e with
  | [a0], hv, e =>
    obtain ⟨_, rfl, e1⟩ := asP_inv e
    obtain ⟨_, rfl, e2⟩ := asSome_inv e1
    cases k with
    | zero => cases e2
    | succ k =>
      exact func_ok wide_ok hX0 tab_ok (hC k rfl) Try.func71 (by kernel_rfl : Try.f71.body = some spunary.c.code) (by decide) (by kernel_rfl : Try.f71.results.toList = spunary.res) (by kernel_rfl : icOk T Try.f71.ntmps spunary.c = true) R (fun i h => absurd h (hX0 i)) hv (Nat.le_of_ble_eq_true rfl) ((congrFun (spunary.ok k _ κ) h).trans e2)
theorem spword.call (k : Nat) (hC : ∀ j, k = j + 1 → CallOk Try.prog T base w0 (env (α := α) j)) : FnOk Try.prog T base w0 (env (α := α) k) 78 := by
  intro X ι h w args xs κ out hX0 R hv e
  have e : env_78 k args κ h = some out := e
  unfold env_78 at e
  match args, hv, e with
  | [a0], hv, e =>
    obtain ⟨_, rfl, e1⟩ := asP_inv e
    obtain ⟨_, rfl, e2⟩ := asSome_inv e1
    cases k with
    | zero => cases e2
    | succ k =>
      exact func_ok wide_ok hX0 tab_ok (hC k rfl) Try.func78 (by kernel_rfl : Try.f78.body = some spword.c.code) (by decide) (by kernel_rfl : Try.f78.results.toList = spword.res) (by kernel_rfl : icOk T Try.f78.ntmps spword.c = true) R (fun i h => absurd h (hX0 i)) hv (Nat.le_of_ble_eq_true rfl) ((congrFun (spword.ok k _ κ) h).trans e2)
theorem syntax_Parse.call (k : Nat) (hC : ∀ j, k = j + 1 → CallOk Try.prog T base w0 (env (α := α) j)) : FnOk Try.prog T base w0 (env (α := α) k) 21 := by
  intro X ι h w args xs κ out hX0 R hv e
  have e : env_21 k args κ h = some out := e
  unfold env_21 at e
  match args, hv, e with
  | [a0], hv, e =>
    obtain ⟨_, rfl, e1⟩ := asStr_inv e
    cases k with
    | zero => cases e1
    | succ k =>
      exact defer_calls (pre := syntax_Parse.as) (B := syntax_Parse.u2.c) (C := syntax_Parse.C.u1.c) (id := 4) (t := 14) (ops := opsOf Try.f21 4) (mk := opAt Try.f21 4 0) (df := opAt Try.f21 4 1) (g := 35) (caps := [.tmp 2, .tmp 3]) (idr := 0) (d0 := 5) (rops := opsOf Try.f35 0) (ro := opAt Try.f35 0 0) (rs := syntax_Parse.res) (keep := [2, 3]) (dts := #[]) (cts := #[]) wide_ok hX0 tab_ok (hC k rfl) Try.func21 (by kernel_rfl : Try.f21.body = some (nest syntax_Parse.as (.seq (.region 4 (opsOf Try.f21 4) false) syntax_Parse.u2.c.code))) (by decide) (by kernel_rfl) (by kernel_rfl) (by kernel_rfl) (by kernel_rfl) (by decide) (by decide) (by kernel_rfl) (by kernel_rfl) (by kernel_rfl) (by kernel_rfl) (by kernel_rfl) (by kernel_rfl) (by kernel_rfl) Try.func35 (by decide) (by kernel_rfl : Try.f35.body = some (.seq (.region 0 (opsOf Try.f35 0) false) syntax_Parse.C.u1.c.code)) (by kernel_rfl) (by kernel_rfl) (by kernel_rfl) (by kernel_rfl) (by kernel_rfl) (by kernel_rfl) (by decide) (by decide) R hv (Nat.le_of_ble_eq_true rfl) ((congrFun (syntax_Parse.ok k _ κ) h).trans e1)
theorem slices_Clone_Node_Node.call (k : Nat) (hC : ∀ j, k = j + 1 → CallOk Try.prog T base w0 (env (α := α) j)) : FnOk Try.prog T base w0 (env (α := α) k) 45 := by
  intro X ι h w args xs κ out hX0 R hv e
  have e : env_45 k args κ h = some out := e
  unfold env_45 at e
  match args, hv, e with
  | [a0], hv, e =>
    obtain ⟨_, rfl, e1⟩ := asS_inv e
    cases k with
    | zero => cases e1
    | succ k =>
      exact func_ok wide_ok hX0 tab_ok (hC k rfl) Try.func45 (by kernel_rfl : Try.f45.body = some slices_Clone_Node_Node.c.code) (by decide) (by kernel_rfl : Try.f45.results.toList = slices_Clone_Node_Node.res) (by kernel_rfl : icOk T Try.f45.ntmps slices_Clone_Node_Node.c = true) R (fun i h => absurd h (hX0 i)) hv (Nat.le_of_ble_eq_true rfl) ((congrFun (slices_Clone_Node_Node.ok k _ κ) h).trans e1)
theorem syntax_spelt.call (k : Nat) (hC : ∀ j, k = j + 1 → CallOk Try.prog T base w0 (env (α := α) j)) : FnOk Try.prog T base w0 (env (α := α) k) 62 := by
  intro X ι h w args xs κ out hX0 R hv e
  have e : env_62 k args κ h = some out := e
  unfold env_62 at e
  match args, hv, e with
  | [a0, a1, a2], hv, e =>
    obtain ⟨_, rfl, e1⟩ := asStr_inv e
    obtain ⟨_, rfl, e2⟩ := asI_inv e1
    obtain ⟨_, rfl, e3⟩ := asI_inv e2
    cases k with
    | zero => cases e3
    | succ k =>
      exact func_ok wide_ok hX0 tab_ok (hC k rfl) Try.func62 (by kernel_rfl : Try.f62.body = some syntax_spelt.c.code) (by decide) (by kernel_rfl : Try.f62.results.toList = syntax_spelt.res) (by kernel_rfl : icOk T Try.f62.ntmps syntax_spelt.c = true) R (fun i h => absurd h (hX0 i)) hv (Nat.le_of_ble_eq_true rfl) ((congrFun (syntax_spelt.ok k _ _ _ κ) h).trans e3)
theorem syntax_name.call (k : Nat) (hC : ∀ j, k = j + 1 → CallOk Try.prog T base w0 (env (α := α) j)) : FnOk Try.prog T base w0 (env (α := α) k) 47 := by
  intro X ι h w args xs κ out hX0 R hv e
  have e : env_47 k args κ h = some out := e
  unfold env_47 at e
  match args, hv, e with
  | [a0], hv, e =>
    obtain ⟨_, rfl, e1⟩ := asStr_inv e
    cases k with
    | zero => cases e1
    | succ k =>
      exact func_ok wide_ok hX0 tab_ok (hC k rfl) Try.func47 (by kernel_rfl : Try.f47.body = some syntax_name.c.code) (by decide) (by kernel_rfl : Try.f47.results.toList = syntax_name.res) (by kernel_rfl : icOk T Try.f47.ntmps syntax_name.c = true) R (fun i h => absurd h (hX0 i)) hv (Nat.le_of_ble_eq_true rfl) ((congrFun (syntax_name.ok k _ κ) h).trans e1)
theorem syntax_variable.call (k : Nat) (hC : ∀ j, k = j + 1 → CallOk Try.prog T base w0 (env (α := α) j)) : FnOk Try.prog T base w0 (env (α := α) k) 48 := by
  intro X ι h w args xs κ out hX0 R hv e
  have e : env_48 k args κ h = some out := e
  unfold env_48 at e
  match args, hv, e with
  | [a0], hv, e =>
    obtain ⟨_, rfl, e1⟩ := asStr_inv e
    cases k with
    | zero => cases e1
    | succ k =>
      exact func_ok wide_ok hX0 tab_ok (hC k rfl) Try.func48 (by kernel_rfl : Try.f48.body = some syntax_variable.c.code) (by decide) (by kernel_rfl : Try.f48.results.toList = syntax_variable.res) (by kernel_rfl : icOk T Try.f48.ntmps syntax_variable.c = true) R (fun i h => absurd h (hX0 i)) hv (Nat.le_of_ble_eq_true rfl) ((congrFun (syntax_variable.ok k _ κ) h).trans e1)
theorem syntax_below.call (k : Nat) (hC : ∀ j, k = j + 1 → CallOk Try.prog T base w0 (env (α := α) j)) : FnOk Try.prog T base w0 (env (α := α) k) 30 := by
  intro X ι h w args xs κ out hX0 R hv e
  have e : env_30 k args κ h = some out := e
  unfold env_30 at e
  match args, hv, e with
  | [a0], hv, e =>
    obtain ⟨_, rfl, e1⟩ := asAgg_inv e
    obtain ⟨_, _, rfl, e2⟩ := uncons_inv e1
    obtain ⟨_, rfl, e3⟩ := asI_inv e2
    obtain ⟨_, _, rfl, e4⟩ := uncons_inv e3
    obtain ⟨_, rfl, e5⟩ := asI_inv e4
    obtain ⟨_, _, rfl, e6⟩ := uncons_inv e5
    obtain ⟨_, rfl, e7⟩ := asI_inv e6
    obtain ⟨_, _, rfl, e8⟩ := uncons_inv e7
    obtain ⟨_, rfl, e9⟩ := asStr_inv e8
    obtain ⟨_, _, rfl, e10⟩ := uncons_inv e9
    obtain ⟨_, rfl, e11⟩ := asI_inv e10
    obtain ⟨rfl, e12⟩ := unnil_inv e11
    cases k with
    | zero => cases e12
    | succ k =>
      exact func_ok wide_ok hX0 tab_ok (hC k rfl) Try.func30 (by kernel_rfl : Try.f30.body = some syntax_below.c.code) (by decide) (by kernel_rfl : Try.f30.results.toList = syntax_below.res) (by kernel_rfl : icOk T Try.f30.ntmps syntax_below.c = true) R (fun i h => absurd h (hX0 i)) hv (Nat.le_of_ble_eq_true rfl) ((congrFun (syntax_below.ok k _ _ _ _ _ κ) h).trans e12)
theorem syntax_Right_c1.call (k : Nat) (hC : ∀ j, k = j + 1 → CallOk Try.prog T base w0 (env (α := α) j)) : FnOk Try.prog T base w0 (env (α := α) k) 32 := by
  intro X ι h w args xs κ out hX0 R hv e
  have e : env_32 k args κ h = some out := e
  unfold env_32 at e
  match args, hv, e with
  | [a0], hv, e =>
    obtain ⟨_, rfl, e1⟩ := asI_inv e
    cases k with
    | zero => cases e1
    | succ k =>
      exact func_ok wide_ok hX0 tab_ok (hC k rfl) Try.func32 (by kernel_rfl : Try.f32.body = some syntax_Right_c1.c.code) (by decide) (by kernel_rfl : Try.f32.results.toList = syntax_Right_c1.res) (by kernel_rfl : icOk T Try.f32.ntmps syntax_Right_c1.c = true) R (fun i h => absurd h (hX0 i)) hv (Nat.le_of_ble_eq_true rfl) ((congrFun (syntax_Right_c1.ok k _ κ) h).trans e1)
theorem slices_IndexFunc_int_int_32.call (k : Nat) (hC : ∀ j, k = j + 1 → CallOk Try.prog T base w0 (env (α := α) j)) : FnOk Try.prog T base w0 (env (α := α) k) 49 := by
  intro X ι h w args xs κ out hX0 R hv e
  have e : env_49 k args κ h = some out := e
  unfold env_49 at e
  match args, hv, e with
  | [a0, a1], hv, e =>
    obtain ⟨_, rfl, e1⟩ := asS_inv e
    obtain ⟨_, _, _, rfl, e2⟩ := asFunc_inv e1
    obtain ⟨hbe3, e3⟩ := need_inv e2
    obtain rfl := Nat.eq_of_beq_eq_true hbe3
    obtain ⟨rfl, e4⟩ := unnil_inv e3
    obtain ⟨rfl, e5⟩ := unnil_inv e4
    cases k with
    | zero => cases e5
    | succ k =>
      exact func_ok wide_ok hX0 tab_ok (hC k rfl) Try.func49 (by kernel_rfl : Try.f49.body = some slices_IndexFunc_int_int_32.c.code) (by decide) (by kernel_rfl : Try.f49.results.toList = slices_IndexFunc_int_int_32.res) (by kernel_rfl : icOk T Try.f49.ntmps slices_IndexFunc_int_int_32.c = true) R (fun i h => absurd h (hX0 i)) hv (Nat.le_of_ble_eq_true rfl) ((congrFun (slices_IndexFunc_int_int_32.ok k _ κ) h).trans e5)
theorem slices_ContainsFunc_int_int_32.call (k : Nat) (hC : ∀ j, k = j + 1 → CallOk Try.prog T base w0 (env (α := α) j)) : FnOk Try.prog T base w0 (env (α := α) k) 31 := by
  intro X ι h w args xs κ out hX0 R hv e
  have e : env_31 k args κ h = some out := e
  unfold env_31 at e
  match args, hv, e with
  | [a0, a1], hv, e =>
    obtain ⟨_, rfl, e1⟩ := asS_inv e
    obtain ⟨_, _, _, rfl, e2⟩ := asFunc_inv e1
    obtain ⟨hbe3, e3⟩ := need_inv e2
    obtain rfl := Nat.eq_of_beq_eq_true hbe3
    obtain ⟨rfl, e4⟩ := unnil_inv e3
    obtain ⟨rfl, e5⟩ := unnil_inv e4
    cases k with
    | zero => cases e5
    | succ k =>
      exact func_ok wide_ok hX0 tab_ok (hC k rfl) Try.func31 (by kernel_rfl : Try.f31.body = some slices_ContainsFunc_int_int_32.c.code) (by decide) (by kernel_rfl : Try.f31.results.toList = slices_ContainsFunc_int_int_32.res) (by kernel_rfl : icOk T Try.f31.ntmps slices_ContainsFunc_int_int_32.c = true) R (fun i h => absurd h (hX0 i)) hv (Nat.le_of_ble_eq_true rfl) ((congrFun (slices_ContainsFunc_int_int_32.ok k _ κ) h).trans e5)
theorem slEq.call (k : Nat) (hC : ∀ j, k = j + 1 → CallOk Try.prog T base w0 (env (α := α) j)) : FnOk Try.prog T base w0 (env (α := α) k) 33 := by
  intro X ι h w args xs κ out hX0 R hv e
  have e : env_33 k args κ h = some out := e
  unfold env_33 at e
  match args, hv, e with
  | [a0, a1], hv, e =>
    obtain ⟨_, rfl, e1⟩ := asS_inv e
    obtain ⟨_, rfl, e2⟩ := asS_inv e1
    cases k with
    | zero => cases e2
    | succ k =>
      exact func_ok wide_ok hX0 tab_ok (hC k rfl) Try.func33 (by kernel_rfl : Try.f33.body = some slEq.c.code) (by decide) (by kernel_rfl : Try.f33.results.toList = slEq.res) (by kernel_rfl : icOk T Try.f33.ntmps slEq.c = true) R (fun i h => absurd h (hX0 i)) hv (Nat.le_of_ble_eq_true rfl) ((congrFun (slEq.ok k _ _ κ) h).trans e2)
theorem syntax_Right.call (k : Nat) (hC : ∀ j, k = j + 1 → CallOk Try.prog T base w0 (env (α := α) j)) : FnOk Try.prog T base w0 (env (α := α) k) 20 := by
  intro X ι h w args xs κ out hX0 R hv e
  have e : env_20 k args κ h = some out := e
  unfold env_20 at e
  match args, hv, e with
  | [a0], hv, e =>
    obtain ⟨_, rfl, e1⟩ := asS_inv e
    cases k with
    | zero => cases e1
    | succ k =>
      exact func_ok wide_ok hX0 tab_ok (hC k rfl) Try.func20 (by kernel_rfl : Try.f20.body = some syntax_Right.c.code) (by decide) (by kernel_rfl : Try.f20.results.toList = syntax_Right.res) (by kernel_rfl : icOk T Try.f20.ntmps syntax_Right.c = true) R (fun i h => absurd h (hX0 i)) hv (Nat.le_of_ble_eq_true rfl) ((congrFun (syntax_Right.ok k _ κ) h).trans e1)
theorem bwfind.call (k : Nat) (hC : ∀ j, k = j + 1 → CallOk Try.prog T base w0 (env (α := α) j)) : FnOk Try.prog T base w0 (env (α := α) k) 61 := by
  intro X ι h w args xs κ out hX0 R hv e
  have e : env_61 k args κ h = some out := e
  unfold env_61 at e
  match args, hv, e with
  | [a0, a1], hv, e =>
    obtain ⟨_, rfl, e1⟩ := asP_inv e
    obtain ⟨_, rfl, e2⟩ := asSome_inv e1
    obtain ⟨_, rfl, e3⟩ := asStr_inv e2
    cases k with
    | zero => cases e3
    | succ k =>
      exact func_ok wide_ok hX0 tab_ok (hC k rfl) Try.func61 (by kernel_rfl : Try.f61.body = some bwfind.c.code) (by decide) (by kernel_rfl : Try.f61.results.toList = bwfind.res) (by kernel_rfl : icOk T Try.f61.ntmps bwfind.c = true) R (fun i h => absurd h (hX0 i)) hv (Nat.le_of_ble_eq_true rfl) ((congrFun (bwfind.ok k _ _ κ) h).trans e3)
theorem bwnode.call (k : Nat) (hC : ∀ j, k = j + 1 → CallOk Try.prog T base w0 (env (α := α) j)) : FnOk Try.prog T base w0 (env (α := α) k) 46 := by
  intro X ι h w args xs κ out hX0 R hv e
  have e : env_46 k args κ h = some out := e
  unfold env_46 at e
  match args, hv, e with
  | [a0, a1], hv, e =>
    obtain ⟨_, rfl, e1⟩ := asP_inv e
    obtain ⟨_, rfl, e2⟩ := asSome_inv e1
    obtain ⟨_, rfl, e3⟩ := asI_inv e2
    cases k with
    | zero => cases e3
    | succ k =>
      exact func_ok wide_ok hX0 tab_ok (hC k rfl) Try.func46 (by kernel_rfl : Try.f46.body = some bwnode.c.code) (by decide) (by kernel_rfl : Try.f46.results.toList = bwnode.res) (by kernel_rfl : icOk T Try.f46.ntmps bwnode.c = true) R (fun i h => absurd h (hX0 i)) hv (Nat.le_of_ble_eq_true rfl) ((congrFun (bwnode.ok k _ _ κ) h).trans e3)
theorem bind_walked.call (k : Nat) (hC : ∀ j, k = j + 1 → CallOk Try.prog T base w0 (env (α := α) j)) : FnOk Try.prog T base w0 (env (α := α) k) 28 := by
  intro X ι h w args xs κ out hX0 R hv e
  have e : env_28 k args κ h = some out := e
  unfold env_28 at e
  match args, hv, e with
  | [a0], hv, e =>
    obtain ⟨_, rfl, e1⟩ := asS_inv e
    cases k with
    | zero => cases e1
    | succ k =>
      exact func_ok wide_ok hX0 tab_ok (hC k rfl) Try.func28 (by kernel_rfl : Try.f28.body = some bind_walked.c.code) (by decide) (by kernel_rfl : Try.f28.results.toList = bind_walked.res) (by kernel_rfl : icOk T Try.f28.ntmps bind_walked.c = true) R (fun i h => absurd h (hX0 i)) hv (Nat.le_of_ble_eq_true rfl) ((congrFun (bind_walked.ok k _ κ) h).trans e1)
theorem bind_fix.call (k : Nat) (hC : ∀ j, k = j + 1 → CallOk Try.prog T base w0 (env (α := α) j)) : FnOk Try.prog T base w0 (env (α := α) k) 29 := by
  intro X ι h w args xs κ out hX0 R hv e
  have e : env_29 k args κ h = some out := e
  unfold env_29 at e
  match args, hv, e with
  | [a0], hv, e =>
    obtain ⟨_, rfl, e1⟩ := asAgg_inv e
    obtain ⟨_, _, rfl, e2⟩ := uncons_inv e1
    obtain ⟨_, rfl, e3⟩ := asI_inv e2
    obtain ⟨_, _, rfl, e4⟩ := uncons_inv e3
    obtain ⟨_, rfl, e5⟩ := asI_inv e4
    obtain ⟨_, _, rfl, e6⟩ := uncons_inv e5
    obtain ⟨_, rfl, e7⟩ := asI_inv e6
    obtain ⟨_, _, rfl, e8⟩ := uncons_inv e7
    obtain ⟨_, rfl, e9⟩ := asStr_inv e8
    obtain ⟨_, _, rfl, e10⟩ := uncons_inv e9
    obtain ⟨_, rfl, e11⟩ := asI_inv e10
    obtain ⟨rfl, e12⟩ := unnil_inv e11
    cases k with
    | zero => cases e12
    | succ k =>
      exact func_ok wide_ok hX0 tab_ok (hC k rfl) Try.func29 (by kernel_rfl : Try.f29.body = some bind_fix.c.code) (by decide) (by kernel_rfl : Try.f29.results.toList = bind_fix.res) (by kernel_rfl : icOk T Try.f29.ntmps bind_fix.c = true) R (fun i h => absurd h (hX0 i)) hv (Nat.le_of_ble_eq_true rfl) ((congrFun (bind_fix.ok k _ _ _ _ _ κ) h).trans e12)
theorem bind_Check.call (k : Nat) (hC : ∀ j, k = j + 1 → CallOk Try.prog T base w0 (env (α := α) j)) : FnOk Try.prog T base w0 (env (α := α) k) 19 := by
  intro X ι h w args xs κ out hX0 R hv e
  have e : env_19 k args κ h = some out := e
  unfold env_19 at e
  match args, hv, e with
  | [a0], hv, e =>
    obtain ⟨_, rfl, e1⟩ := asS_inv e
    cases k with
    | zero => cases e1
    | succ k =>
      exact func_ok wide_ok hX0 tab_ok (hC k rfl) Try.func19 (by kernel_rfl : Try.f19.body = some bind_Check.c.code) (by decide) (by kernel_rfl : Try.f19.results.toList = bind_Check.res) (by kernel_rfl : icOk T Try.f19.ntmps bind_Check.c = true) R (fun i h => absurd h (hX0 i)) hv (Nat.le_of_ble_eq_true rfl) ((congrFun (bind_Check.ok k _ κ) h).trans e1)
theorem norm_wide.call (k : Nat) (hC : ∀ j, k = j + 1 → CallOk Try.prog T base w0 (env (α := α) j)) : FnOk Try.prog T base w0 (env (α := α) k) 27 := by
  intro X ι h w args xs κ out hX0 R hv e
  have e : env_27 k args κ h = some out := e
  unfold env_27 at e
  match args, hv, e with
  | [a0], hv, e =>
    obtain ⟨_, rfl, e1⟩ := asS_inv e
    cases k with
    | zero => cases e1
    | succ k =>
      exact func_ok wide_ok hX0 tab_ok (hC k rfl) Try.func27 (by kernel_rfl : Try.f27.body = some norm_wide.c.code) (by decide) (by kernel_rfl : Try.f27.results.toList = norm_wide.res) (by kernel_rfl : icOk T Try.f27.ntmps norm_wide.c = true) R (fun i h => absurd h (hX0 i)) hv (Nat.le_of_ble_eq_true rfl) ((congrFun (norm_wide.ok k _ κ) h).trans e1)
theorem norm_dual.call (k : Nat) (hC : ∀ j, k = j + 1 → CallOk Try.prog T base w0 (env (α := α) j)) : FnOk Try.prog T base w0 (env (α := α) k) 55 := by
  intro X ι h w args xs κ out hX0 R hv e
  have e : env_55 k args κ h = some out := e
  unfold env_55 at e
  match args, hv, e with
  | [a0], hv, e =>
    obtain ⟨_, rfl, e1⟩ := asI_inv e
    cases k with
    | zero => cases e1
    | succ k =>
      exact func_ok wide_ok hX0 tab_ok (hC k rfl) Try.func55 (by kernel_rfl : Try.f55.body = some norm_dual.c.code) (by decide) (by kernel_rfl : Try.f55.results.toList = norm_dual.res) (by kernel_rfl : icOk T Try.f55.ntmps norm_dual.c = true) R (fun i h => absurd h (hX0 i)) hv (Nat.le_of_ble_eq_true rfl) ((congrFun (norm_dual.ok k _ κ) h).trans e1)
theorem norm_maker_node.call (k : Nat) (hC : ∀ j, k = j + 1 → CallOk Try.prog T base w0 (env (α := α) j)) : FnOk Try.prog T base w0 (env (α := α) k) 40 := by
  intro X ι h w args xs κ out hX0 R hv e
  have e : env_40 k args κ h = some out := e
  unfold env_40 at e
  match args, hv, e with
  | [a0, a1, a2], hv, e =>
    obtain ⟨_, rfl, e1⟩ := asP_inv e
    obtain ⟨_, rfl, e2⟩ := asSome_inv e1
    obtain ⟨_, rfl, e3⟩ := asI_inv e2
    obtain ⟨_, rfl, e4⟩ := asB_inv e3
    cases k with
    | zero => cases e4
    | succ k =>
      exact func_ok wide_ok hX0 tab_ok (hC k rfl) Try.func40 (by kernel_rfl : Try.f40.body = some norm_maker_node.c.code) (by decide) (by kernel_rfl : Try.f40.results.toList = norm_maker_node.res) (by kernel_rfl : icOk T Try.f40.ntmps norm_maker_node.c = true) R (fun i h => absurd h (hX0 i)) hv (Nat.le_of_ble_eq_true rfl) ((congrFun (norm_maker_node.ok k _ _ _ κ) h).trans e4)
theorem norm_form.call (k : Nat) (hC : ∀ j, k = j + 1 → CallOk Try.prog T base w0 (env (α := α) j)) : FnOk Try.prog T base w0 (env (α := α) k) 22 := by
  intro X ι h w args xs κ out hX0 R hv e
  have e : env_22 k args κ h = some out := e
  unfold env_22 at e
  match args, hv, e with
  | [a0, a1], hv, e =>
    obtain ⟨_, rfl, e1⟩ := asS_inv e
    obtain ⟨_, rfl, e2⟩ := asB_inv e1
    cases k with
    | zero => cases e2
    | succ k =>
      exact func_ok wide_ok hX0 tab_ok (hC k rfl) Try.func22 (by kernel_rfl : Try.f22.body = some norm_form.c.code) (by decide) (by kernel_rfl : Try.f22.results.toList = norm_form.res) (by kernel_rfl : icOk T Try.f22.ntmps norm_form.c = true) R (fun i h => absurd h (hX0 i)) hv (Nat.le_of_ble_eq_true rfl) ((congrFun (norm_form.ok k _ _ κ) h).trans e2)
theorem norm_Positive.call (k : Nat) (hC : ∀ j, k = j + 1 → CallOk Try.prog T base w0 (env (α := α) j)) : FnOk Try.prog T base w0 (env (α := α) k) 9 := by
  intro X ι h w args xs κ out hX0 R hv e
  have e : env_9 k args κ h = some out := e
  unfold env_9 at e
  match args, hv, e with
  | [a0], hv, e =>
    obtain ⟨_, rfl, e1⟩ := asS_inv e
    cases k with
    | zero => cases e1
    | succ k =>
      exact func_ok wide_ok hX0 tab_ok (hC k rfl) Try.func9 (by kernel_rfl : Try.f9.body = some norm_Positive.c.code) (by decide) (by kernel_rfl : Try.f9.results.toList = norm_Positive.res) (by kernel_rfl : icOk T Try.f9.ntmps norm_Positive.c = true) R (fun i h => absurd h (hX0 i)) hv (Nat.le_of_ble_eq_true rfl) ((congrFun (norm_Positive.ok k _ κ) h).trans e1)
theorem r4Same.call (k : Nat) (hC : ∀ j, k = j + 1 → CallOk Try.prog T base w0 (env (α := α) j)) : FnOk Try.prog T base w0 (env (α := α) k) 12 := by
  intro X ι h w args xs κ out hX0 R hv e
  have e : env_12 k args κ h = some out := e
  unfold env_12 at e
  match args, hv, e with
  | [a0, a1, a2], hv, e =>
    obtain ⟨_, rfl, e1⟩ := asS_inv e
    obtain ⟨_, rfl, e2⟩ := asS_inv e1
    obtain ⟨_, rfl, e3⟩ := asB_inv e2
    cases k with
    | zero => cases e3
    | succ k =>
      exact func_ok wide_ok hX0 tab_ok (hC k rfl) Try.func12 (by kernel_rfl : Try.f12.body = some r4Same.c.code) (by decide) (by kernel_rfl : Try.f12.results.toList = r4Same.res) (by kernel_rfl : icOk T Try.f12.ntmps r4Same.c = true) R (fun i h => absurd h (hX0 i)) hv (Nat.le_of_ble_eq_true rfl) ((congrFun (r4Same.ok k _ _ _ κ) h).trans e3)
theorem norm_Is_c1.call (k : Nat) (hC : ∀ j, k = j + 1 → CallOk Try.prog T base w0 (env (α := α) j)) : FnOk Try.prog T base w0 (env (α := α) k) 26 := by
  intro X ι h w args xs κ out hX0 R hv e
  have e : env_26 k args κ h = some out := e
  unfold env_26 at e
  match args, hv, e with
  | [a0], hv, e =>
    obtain ⟨_, rfl, e1⟩ := asAgg_inv e
    obtain ⟨_, _, rfl, e2⟩ := uncons_inv e1
    obtain ⟨_, rfl, e3⟩ := asI_inv e2
    obtain ⟨_, _, rfl, e4⟩ := uncons_inv e3
    obtain ⟨_, rfl, e5⟩ := asI_inv e4
    obtain ⟨_, _, rfl, e6⟩ := uncons_inv e5
    obtain ⟨_, rfl, e7⟩ := asI_inv e6
    obtain ⟨_, _, rfl, e8⟩ := uncons_inv e7
    obtain ⟨_, rfl, e9⟩ := asStr_inv e8
    obtain ⟨_, _, rfl, e10⟩ := uncons_inv e9
    obtain ⟨_, rfl, e11⟩ := asI_inv e10
    obtain ⟨rfl, e12⟩ := unnil_inv e11
    cases k with
    | zero => cases e12
    | succ k =>
      exact func_ok wide_ok hX0 tab_ok (hC k rfl) Try.func26 (by kernel_rfl : Try.f26.body = some norm_Is_c1.c.code) (by decide) (by kernel_rfl : Try.f26.results.toList = norm_Is_c1.res) (by kernel_rfl : icOk T Try.f26.ntmps norm_Is_c1.c = true) R (fun i h => absurd h (hX0 i)) hv (Nat.le_of_ble_eq_true rfl) ((congrFun (norm_Is_c1.ok k _ _ _ _ _ κ) h).trans e12)
theorem slices_IndexFunc_Node_Node_26.call (k : Nat) (hC : ∀ j, k = j + 1 → CallOk Try.prog T base w0 (env (α := α) j)) : FnOk Try.prog T base w0 (env (α := α) k) 44 := by
  intro X ι h w args xs κ out hX0 R hv e
  have e : env_44 k args κ h = some out := e
  unfold env_44 at e
  match args, hv, e with
  | [a0, a1], hv, e =>
    obtain ⟨_, rfl, e1⟩ := asS_inv e
    obtain ⟨_, _, _, rfl, e2⟩ := asFunc_inv e1
    obtain ⟨hbe3, e3⟩ := need_inv e2
    obtain rfl := Nat.eq_of_beq_eq_true hbe3
    obtain ⟨rfl, e4⟩ := unnil_inv e3
    obtain ⟨rfl, e5⟩ := unnil_inv e4
    cases k with
    | zero => cases e5
    | succ k =>
      exact func_ok wide_ok hX0 tab_ok (hC k rfl) Try.func44 (by kernel_rfl : Try.f44.body = some slices_IndexFunc_Node_Node_26.c.code) (by decide) (by kernel_rfl : Try.f44.results.toList = slices_IndexFunc_Node_Node_26.res) (by kernel_rfl : icOk T Try.f44.ntmps slices_IndexFunc_Node_Node_26.c = true) R (fun i h => absurd h (hX0 i)) hv (Nat.le_of_ble_eq_true rfl) ((congrFun (slices_IndexFunc_Node_Node_26.ok k _ κ) h).trans e5)
theorem slices_ContainsFunc_Node_Node_26.call (k : Nat) (hC : ∀ j, k = j + 1 → CallOk Try.prog T base w0 (env (α := α) j)) : FnOk Try.prog T base w0 (env (α := α) k) 25 := by
  intro X ι h w args xs κ out hX0 R hv e
  have e : env_25 k args κ h = some out := e
  unfold env_25 at e
  match args, hv, e with
  | [a0, a1], hv, e =>
    obtain ⟨_, rfl, e1⟩ := asS_inv e
    obtain ⟨_, _, _, rfl, e2⟩ := asFunc_inv e1
    obtain ⟨hbe3, e3⟩ := need_inv e2
    obtain rfl := Nat.eq_of_beq_eq_true hbe3
    obtain ⟨rfl, e4⟩ := unnil_inv e3
    obtain ⟨rfl, e5⟩ := unnil_inv e4
    cases k with
    | zero => cases e5
    | succ k =>
      exact func_ok wide_ok hX0 tab_ok (hC k rfl) Try.func25 (by kernel_rfl : Try.f25.body = some slices_ContainsFunc_Node_Node_26.c.code) (by decide) (by kernel_rfl : Try.f25.results.toList = slices_ContainsFunc_Node_Node_26.res) (by kernel_rfl : icOk T Try.f25.ntmps slices_ContainsFunc_Node_Node_26.c = true) R (fun i h => absurd h (hX0 i)) hv (Nat.le_of_ble_eq_true rfl) ((congrFun (slices_ContainsFunc_Node_Node_26.ok k _ κ) h).trans e5)
theorem norm_Is.call (k : Nat) (hC : ∀ j, k = j + 1 → CallOk Try.prog T base w0 (env (α := α) j)) : FnOk Try.prog T base w0 (env (α := α) k) 15 := by
  intro X ι h w args xs κ out hX0 R hv e
  have e : env_15 k args κ h = some out := e
  unfold env_15 at e
  match args, hv, e with
  | [a0], hv, e =>
    obtain ⟨_, rfl, e1⟩ := asS_inv e
    cases k with
    | zero => cases e1
    | succ k =>
      exact func_ok wide_ok hX0 tab_ok (hC k rfl) Try.func15 (by kernel_rfl : Try.f15.body = some norm_Is.c.code) (by decide) (by kernel_rfl : Try.f15.results.toList = norm_Is.res) (by kernel_rfl : icOk T Try.f15.ntmps norm_Is.c = true) R (fun i h => absurd h (hX0 i)) hv (Nat.le_of_ble_eq_true rfl) ((congrFun (norm_Is.ok k _ κ) h).trans e1)
theorem w6shown.call (k : Nat) (hC : ∀ j, k = j + 1 → CallOk Try.prog T base w0 (env (α := α) j)) : FnOk Try.prog T base w0 (env (α := α) k) 8 := by
  intro X ι h w args xs κ out hX0 R hv e
  have e : env_8 k args κ h = some out := e
  unfold env_8 at e
  match args, hv, e with
  | [], hv, e =>
    cases k with
    | zero => cases e
    | succ k =>
      exact func_ok wide_ok hX0 tab_ok (hC k rfl) Try.func8 (by kernel_rfl : Try.f8.body = some w6shown.c.code) (by decide) (by kernel_rfl : Try.f8.results.toList = w6shown.res) (by kernel_rfl : icOk T Try.f8.ntmps w6shown.c = true) R (fun i h => absurd h (hX0 i)) hv (Nat.le_of_ble_eq_true rfl) ((congrFun (w6shown.ok k κ) h).trans e)
theorem w6NormNames.call (k : Nat) (hC : ∀ j, k = j + 1 → CallOk Try.prog T base w0 (env (α := α) j)) : FnOk Try.prog T base w0 (env (α := α) k) 3 := by
  intro X ι h w args xs κ out hX0 R hv e
  have e : env_3 k args κ h = some out := e
  unfold env_3 at e
  match args, hv, e with
  | [a0], hv, e =>
    obtain ⟨_, rfl, e1⟩ := asS_inv e
    cases k with
    | zero => cases e1
    | succ k =>
      exact func_ok wide_ok hX0 tab_ok (hC k rfl) Try.func3 (by kernel_rfl : Try.f3.body = some w6NormNames.c.code) (by decide) (by kernel_rfl : Try.f3.results.toList = w6NormNames.res) (by kernel_rfl : icOk T Try.f3.ntmps w6NormNames.c = true) R (fun i h => absurd h (hX0 i)) hv (Nat.le_of_ble_eq_true rfl) ((congrFun (w6NormNames.ok k _ κ) h).trans e1)
theorem norm_Negate.call (k : Nat) (hC : ∀ j, k = j + 1 → CallOk Try.prog T base w0 (env (α := α) j)) : FnOk Try.prog T base w0 (env (α := α) k) 11 := by
  intro X ι h w args xs κ out hX0 R hv e
  have e : env_11 k args κ h = some out := e
  unfold env_11 at e
  match args, hv, e with
  | [a0], hv, e =>
    obtain ⟨_, rfl, e1⟩ := asS_inv e
    cases k with
    | zero => cases e1
    | succ k =>
      exact func_ok wide_ok hX0 tab_ok (hC k rfl) Try.func11 (by kernel_rfl : Try.f11.body = some norm_Negate.c.code) (by decide) (by kernel_rfl : Try.f11.results.toList = norm_Negate.res) (by kernel_rfl : icOk T Try.f11.ntmps norm_Negate.c = true) R (fun i h => absurd h (hX0 i)) hv (Nat.le_of_ble_eq_true rfl) ((congrFun (norm_Negate.ok k _ κ) h).trans e1)
end
end Go.Ab.S4
