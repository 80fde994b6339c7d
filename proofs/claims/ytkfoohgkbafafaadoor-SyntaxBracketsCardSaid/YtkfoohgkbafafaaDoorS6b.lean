import Derived.Test.YtkfoohgkbafafaaDoorAb15
import Derived.Test.YtkfoohgkbafafaaDoorAb19
import Derived.Test.YtkfoohgkbafafaaDoorS6a
namespace Go.Ab.S6
section
variable {α : Type}
open Go.Proofs
set_option linter.unusedVariables false
set_option linter.unusedSimpArgs false
variable {base : Nat} {w0 : World}
theorem wide_ok : Tryd.prog.follows .mixedOrders = true := by kernel_rfl
theorem ti3 {i : TI} (h : ti 3 = some i) : TIOk Tryd.prog 3 i := by
  cases h
  exact TIOk.of 139 Tryd.underlying3 Tryd.type3 rfl rfl rfl rfl rfl rfl rfl rfl rfl Tryd.types_size rfl (nofun)
theorem ti5 {i : TI} (h : ti 5 = some i) : TIOk Tryd.prog 5 i := by
  cases h
  exact TIOk.of 139 Tryd.underlying5 Tryd.type5 rfl rfl rfl rfl rfl rfl rfl rfl rfl Tryd.types_size rfl (nofun)
theorem ti9 {i : TI} (h : ti 9 = some i) : TIOk Tryd.prog 9 i := by
  cases h
  exact TIOk.of 139 Tryd.underlying9 Tryd.type9 rfl rfl rfl rfl rfl rfl rfl rfl rfl Tryd.types_size rfl (nofun)
theorem ti20 {i : TI} (h : ti 20 = some i) : TIOk Tryd.prog 20 i := by
  cases h
  exact TIOk.of 139 Tryd.underlying20 Tryd.type20 rfl rfl rfl rfl rfl rfl rfl rfl rfl Tryd.types_size rfl (nofun)
theorem ti22 {i : TI} (h : ti 22 = some i) : TIOk Tryd.prog 22 i := by
  cases h
  exact TIOk.of 139 Tryd.underlying22 Tryd.type22 rfl rfl rfl rfl rfl rfl rfl rfl rfl Tryd.types_size rfl (nofun)
theorem ti27 {i : TI} (h : ti 27 = some i) : TIOk Tryd.prog 27 i := by
  cases h
  exact TIOk.of 139 Tryd.underlying27 Tryd.type27 rfl rfl rfl rfl rfl rfl rfl rfl rfl Tryd.types_size rfl (nofun)
theorem ti31 {i : TI} (h : ti 31 = some i) : TIOk Tryd.prog 31 i := by
  cases h
  exact TIOk.of 139 Tryd.underlying31 Tryd.type31 rfl rfl rfl rfl rfl rfl rfl rfl rfl Tryd.types_size rfl (nofun)
theorem ti33 {i : TI} (h : ti 33 = some i) : TIOk Tryd.prog 33 i := by
  cases h
  exact TIOk.of 139 Tryd.underlying33 Tryd.type33 rfl rfl rfl rfl rfl rfl rfl rfl trivial Tryd.types_size rfl (fun _ => plain_struct Tryd.underlying33 Tryd.stoodInHeld33 Tryd.eqGuardType33 ⟨by decide, rfl, Tryd.underlying3, ⟨by decide, rfl, Tryd.underlying31, trivial⟩⟩)
theorem ti37 {i : TI} (h : ti 37 = some i) : TIOk Tryd.prog 37 i := by
  cases h
  exact TIOk.of 139 Tryd.underlying37 Tryd.type37 rfl rfl rfl rfl rfl rfl rfl rfl trivial Tryd.types_size rfl (fun _ => plain_struct Tryd.underlying37 Tryd.stoodInHeld37 Tryd.eqGuardType37 ⟨by decide, rfl, Tryd.underlying3, ⟨by decide, rfl, Tryd.underlying3, ⟨by decide, rfl, Tryd.underlying3, ⟨by decide, rfl, Tryd.underlying9, ⟨by decide, rfl, Tryd.underlying3, trivial⟩⟩⟩⟩⟩)
theorem ti39 {i : TI} (h : ti 39 = some i) : TIOk Tryd.prog 39 i := by
  cases h
  exact TIOk.of 139 Tryd.underlying39 Tryd.type39 rfl rfl rfl rfl rfl rfl rfl rfl rfl Tryd.types_size rfl (nofun)
theorem ti40 {i : TI} (h : ti 40 = some i) : TIOk Tryd.prog 40 i := by
  cases h
  exact TIOk.of 139 Tryd.underlying40 Tryd.type40 rfl rfl rfl rfl rfl rfl rfl rfl rfl Tryd.types_size rfl (nofun)
theorem ti42 {i : TI} (h : ti 42 = some i) : TIOk Tryd.prog 42 i := by
  cases h
  exact TIOk.of 139 Tryd.underlying42 Tryd.type42 rfl rfl rfl rfl rfl rfl rfl rfl trivial Tryd.types_size rfl (nofun)
theorem ti45 {i : TI} (h : ti 45 = some i) : TIOk Tryd.prog 45 i := by
  cases h
  exact TIOk.of 139 Tryd.underlying45 Tryd.type45 rfl rfl rfl rfl rfl rfl rfl rfl rfl Tryd.types_size rfl (nofun)
theorem ti51 {i : TI} (h : ti 51 = some i) : TIOk Tryd.prog 51 i := by
  cases h
  exact TIOk.of 139 Tryd.underlying51 Tryd.type51 rfl rfl rfl rfl rfl rfl rfl rfl rfl Tryd.types_size rfl (nofun)
theorem ti55 {i : TI} (h : ti 55 = some i) : TIOk Tryd.prog 55 i := by
  cases h
  exact TIOk.of 139 Tryd.underlying55 Tryd.type55 rfl rfl rfl rfl rfl rfl rfl rfl trivial Tryd.types_size rfl (nofun)
theorem ti56 {i : TI} (h : ti 56 = some i) : TIOk Tryd.prog 56 i := by
  cases h
  exact TIOk.of 139 Tryd.underlying56 Tryd.type56 rfl rfl rfl rfl rfl rfl rfl rfl rfl Tryd.types_size rfl (nofun)
theorem ti60 {i : TI} (h : ti 60 = some i) : TIOk Tryd.prog 60 i := by
  cases h
  exact TIOk.of 139 Tryd.underlying60 Tryd.type60 rfl rfl rfl rfl rfl rfl rfl rfl trivial Tryd.types_size rfl (fun _ => plain_struct Tryd.underlying60 Tryd.stoodInHeld60 Tryd.eqGuardType60 ⟨by decide, rfl, Tryd.underlying3, ⟨by decide, rfl, Tryd.underlying3, ⟨by decide, rfl, Tryd.underlying9, ⟨by decide, rfl, Tryd.underlying3, trivial⟩⟩⟩⟩)
theorem ti63 {i : TI} (h : ti 63 = some i) : TIOk Tryd.prog 63 i := by
  cases h
  exact TIOk.of 139 Tryd.underlying63 Tryd.type63 rfl rfl rfl rfl rfl rfl rfl rfl trivial Tryd.types_size rfl (nofun)
theorem ti66 {i : TI} (h : ti 66 = some i) : TIOk Tryd.prog 66 i := by
  cases h
  exact TIOk.of 139 Tryd.underlying66 Tryd.type66 rfl rfl rfl rfl rfl rfl rfl rfl rfl Tryd.types_size rfl (nofun)
theorem tab_ok : TabOk Tryd.prog T := by
  refine ⟨fun t i h => ?_⟩
  by_cases h3 : t = 3
  · subst h3; exact ti3 h
  by_cases h5 : t = 5
  · subst h5; exact ti5 h
  by_cases h9 : t = 9
  · subst h9; exact ti9 h
  by_cases h20 : t = 20
  · subst h20; exact ti20 h
  by_cases h22 : t = 22
  · subst h22; exact ti22 h
  by_cases h27 : t = 27
  · subst h27; exact ti27 h
  by_cases h31 : t = 31
  · subst h31; exact ti31 h
  by_cases h33 : t = 33
  · subst h33; exact ti33 h
  by_cases h37 : t = 37
  · subst h37; exact ti37 h
  by_cases h39 : t = 39
  · subst h39; exact ti39 h
  by_cases h40 : t = 40
  · subst h40; exact ti40 h
  by_cases h42 : t = 42
  · subst h42; exact ti42 h
  by_cases h45 : t = 45
  · subst h45; exact ti45 h
  by_cases h51 : t = 51
  · subst h51; exact ti51 h
  by_cases h55 : t = 55
  · subst h55; exact ti55 h
  by_cases h56 : t = 56
  · subst h56; exact ti56 h
  by_cases h60 : t = 60
  · subst h60; exact ti60 h
  by_cases h63 : t = 63
  · subst h63; exact ti63 h
  by_cases h66 : t = 66
  · subst h66; exact ti66 h
  have : ti t = none := by
    unfold ti
    split <;> first | rfl | contradiction
  rw [show T.ti t = ti t from rfl, this] at h
  cases h
theorem stringslite_IndexByte.call (k : Nat) (hC : ∀ j, k = j + 1 → CallOk Tryd.prog T base w0 (env (α := α) j)) : FnOk Tryd.prog T base w0 (env (α := α) k) 43 := by
  intro X ι h w args xs κ out hX0 R hv e
  have e : env_43 k args κ h = some out := e
  unfold env_43 at e
  match args, hv, e with
  | [a0, a1], hv, e =>
    obtain ⟨_, rfl, e1⟩ := asStr_inv e
    obtain ⟨_, rfl, e2⟩ := asI_inv e1
    cases k with
    | zero => cases e2
    | succ k =>
      exact func_ok wide_ok hX0 tab_ok (hC k rfl) Tryd.func43 (by kernel_rfl : Tryd.f43.body = some stringslite_IndexByte.c.code) (by decide) (by kernel_rfl : Tryd.f43.results.toList = stringslite_IndexByte.res) (by kernel_rfl : icOk T Tryd.f43.ntmps stringslite_IndexByte.c = true) R (fun i h => absurd h (hX0 i)) hv (Nat.le_of_ble_eq_true rfl) ((congrFun (stringslite_IndexByte.ok k _ _ κ) h).trans e2)
theorem strings_IndexByte.call (k : Nat) (hC : ∀ j, k = j + 1 → CallOk Tryd.prog T base w0 (env (α := α) j)) : FnOk Tryd.prog T base w0 (env (α := α) k) 30 := by
  intro X ι h w args xs κ out hX0 R hv e
  have e : env_30 k args κ h = some out := e
  unfold env_30 at e
  match args, hv, e with
  | [a0, a1], hv, e =>
    obtain ⟨_, rfl, e1⟩ := asStr_inv e
    obtain ⟨_, rfl, e2⟩ := asI_inv e1
    cases k with
    | zero => cases e2
    | succ k =>
      exact func_ok wide_ok hX0 tab_ok (hC k rfl) Tryd.func30 (by kernel_rfl : Tryd.f30.body = some strings_IndexByte.c.code) (by decide) (by kernel_rfl : Tryd.f30.results.toList = strings_IndexByte.res) (by kernel_rfl : icOk T Tryd.f30.ntmps strings_IndexByte.c = true) R (fun i h => absurd h (hX0 i)) hv (Nat.le_of_ble_eq_true rfl) ((congrFun (strings_IndexByte.ok k _ _ κ) h).trans e2)
theorem scan_kind.call (k : Nat) (hC : ∀ j, k = j + 1 → CallOk Tryd.prog T base w0 (env (α := α) j)) : FnOk Tryd.prog T base w0 (env (α := α) k) 44 := by
  intro X ι h w args xs κ out hX0 R hv e
  have e : env_44 k args κ h = some out := e
  unfold env_44 at e
  match args, hv, e with
  | [a0], hv, e =>
    obtain ⟨_, rfl, e1⟩ := asI_inv e
    cases k with
    | zero => cases e1
    | succ k =>
      exact func_ok wide_ok hX0 tab_ok (hC k rfl) Tryd.func44 (by kernel_rfl : Tryd.f44.body = some scan_kind.c.code) (by decide) (by kernel_rfl : Tryd.f44.results.toList = scan_kind.res) (by kernel_rfl : icOk T Tryd.f44.ntmps scan_kind.c = true) R (fun i h => absurd h (hX0 i)) hv (Nat.le_of_ble_eq_true rfl) ((congrFun (scan_kind.ok k _ κ) h).trans e1)
theorem scan_long.call (k : Nat) (hC : ∀ j, k = j + 1 → CallOk Tryd.prog T base w0 (env (α := α) j)) : FnOk Tryd.prog T base w0 (env (α := α) k) 45 := by
  intro X ι h w args xs κ out hX0 R hv e
  have e : env_45 k args κ h = some out := e
  unfold env_45 at e
  match args, hv, e with
  | [a0, a1], hv, e =>
    obtain ⟨_, rfl, e1⟩ := asI_inv e
    obtain ⟨_, rfl, e2⟩ := asStr_inv e1
    cases k with
    | zero => cases e2
    | succ k =>
      exact func_ok wide_ok hX0 tab_ok (hC k rfl) Tryd.func45 (by kernel_rfl : Tryd.f45.body = some scan_long.c.code) (by decide) (by kernel_rfl : Tryd.f45.results.toList = scan_long.res) (by kernel_rfl : icOk T Tryd.f45.ntmps scan_long.c = true) R (fun i h => absurd h (hX0 i)) hv (Nat.le_of_ble_eq_true rfl) ((congrFun (scan_long.ok k _ _ κ) h).trans e2)
theorem scan_value.call (k : Nat) (hC : ∀ j, k = j + 1 → CallOk Tryd.prog T base w0 (env (α := α) j)) : FnOk Tryd.prog T base w0 (env (α := α) k) 46 := by
  intro X ι h w args xs κ out hX0 R hv e
  have e : env_46 k args κ h = some out := e
  unfold env_46 at e
  match args, hv, e with
  | [a0], hv, e =>
    obtain ⟨_, rfl, e1⟩ := asStr_inv e
    cases k with
    | zero => cases e1
    | succ k =>
      exact func_ok wide_ok hX0 tab_ok (hC k rfl) Tryd.func46 (by kernel_rfl : Tryd.f46.body = some scan_value.c.code) (by decide) (by kernel_rfl : Tryd.f46.results.toList = scan_value.res) (by kernel_rfl : icOk T Tryd.f46.ntmps scan_value.c = true) R (fun i h => absurd h (hX0 i)) hv (Nat.le_of_ble_eq_true rfl) ((congrFun (scan_value.ok k _ κ) h).trans e1)
theorem scan_token.call (k : Nat) (hC : ∀ j, k = j + 1 → CallOk Tryd.prog T base w0 (env (α := α) j)) : FnOk Tryd.prog T base w0 (env (α := α) k) 31 := by
  intro X ι h w args xs κ out hX0 R hv e
  have e : env_31 k args κ h = some out := e
  unfold env_31 at e
  match args, hv, e with
  | [a0, a1], hv, e =>
    obtain ⟨_, rfl, e1⟩ := asStr_inv e
    obtain ⟨_, rfl, e2⟩ := asI_inv e1
    cases k with
    | zero => cases e2
    | succ k =>
      exact func_ok wide_ok hX0 tab_ok (hC k rfl) Tryd.func31 (by kernel_rfl : Tryd.f31.body = some scan_token.c.code) (by decide) (by kernel_rfl : Tryd.f31.results.toList = scan_token.res) (by kernel_rfl : icOk T Tryd.f31.ntmps scan_token.c = true) R (fun i h => absurd h (hX0 i)) hv (Nat.le_of_ble_eq_true rfl) ((congrFun (scan_token.ok k _ _ κ) h).trans e2)
theorem scan_All.call (k : Nat) (hC : ∀ j, k = j + 1 → CallOk Tryd.prog T base w0 (env (α := α) j)) : FnOk Tryd.prog T base w0 (env (α := α) k) 18 := by
  intro X ι h w args xs κ out hX0 R hv e
  have e : env_18 k args κ h = some out := e
  unfold env_18 at e
  match args, hv, e with
  | [a0], hv, e =>
    obtain ⟨_, rfl, e1⟩ := asStr_inv e
    cases k with
    | zero => cases e1
    | succ k =>
      exact func_ok wide_ok hX0 tab_ok (hC k rfl) Tryd.func18 (by kernel_rfl : Tryd.f18.body = some scan_All.c.code) (by decide) (by kernel_rfl : Tryd.f18.results.toList = scan_All.res) (by kernel_rfl : icOk T Tryd.f18.ntmps scan_All.c = true) R (fun i h => absurd h (hX0 i)) hv (Nat.le_of_ble_eq_true rfl) ((congrFun (scan_All.ok k _ κ) h).trans e1)
theorem syntax_Parse_c2.call (k : Nat) (hC : ∀ j, k = j + 1 → CallOk Tryd.prog T base w0 (env (α := α) j)) : FnOk Tryd.prog T base w0 (env (α := α) k) 21 := by
  intro X ι h w args xs κ out hX0 R hv e
  have e : env_21 k args κ h = some out := e
  unfold env_21 at e
  match args, hv, e with
  | [a0], hv, e =>
    obtain ⟨_, rfl, e1⟩ := asAgg_inv e
    obtain ⟨_, _, rfl, e2⟩ := uncons_inv e1
    obtain ⟨_, rfl, e3⟩ := asI_inv e2
    obtain ⟨_, _, rfl, e4⟩ := uncons_inv e3
    obtain ⟨_, rfl, e5⟩ := asI_inv e4
    obtain ⟨_, _, rfl, e6⟩ := uncons_inv e5
    obtain ⟨_, rfl, e7⟩ := asStr_inv e6
    obtain ⟨_, _, rfl, e8⟩ := uncons_inv e7
    obtain ⟨_, rfl, e9⟩ := asI_inv e8
    obtain ⟨rfl, e10⟩ := unnil_inv e9
    cases k with
    | zero => cases e10
    | succ k =>
      exact func_ok wide_ok hX0 tab_ok (hC k rfl) Tryd.func21 (by kernel_rfl : Tryd.f21.body = some syntax_Parse_c2.c.code) (by decide) (by kernel_rfl : Tryd.f21.results.toList = syntax_Parse_c2.res) (by kernel_rfl : icOk T Tryd.f21.ntmps syntax_Parse_c2.c = true) R (fun i h => absurd h (hX0 i)) hv (Nat.le_of_ble_eq_true rfl) ((congrFun (syntax_Parse_c2.ok k _ _ _ _ κ) h).trans e10)
theorem slices_IndexFunc_Token_Token_21.call (k : Nat) (hC : ∀ j, k = j + 1 → CallOk Tryd.prog T base w0 (env (α := α) j)) : FnOk Tryd.prog T base w0 (env (α := α) k) 32 := by
  intro X ι h w args xs κ out hX0 R hv e
  have e : env_32 k args κ h = some out := e
  unfold env_32 at e
  match args, hv, e with
  | [a0, a1], hv, e =>
    obtain ⟨_, rfl, e1⟩ := asS_inv e
    obtain ⟨_, _, _, rfl, e2⟩ := asFunc_inv e1
    obtain ⟨hbe3, e3⟩ := need_inv e2
    obtain rfl := Nat.eq_of_beq_eq_true hbe3
    obtain ⟨rfl, e4⟩ := unnil_inv e3
    obtain ⟨rfl, e5⟩ := unnil_inv e4
    cases k with
    | zero => cases e5
    | succ k =>
      exact func_ok wide_ok hX0 tab_ok (hC k rfl) Tryd.func32 (by kernel_rfl : Tryd.f32.body = some slices_IndexFunc_Token_Token_21.c.code) (by decide) (by kernel_rfl : Tryd.f32.results.toList = slices_IndexFunc_Token_Token_21.res) (by kernel_rfl : icOk T Tryd.f32.ntmps slices_IndexFunc_Token_Token_21.c = true) R (fun i h => absurd h (hX0 i)) hv (Nat.le_of_ble_eq_true rfl) ((congrFun (slices_IndexFunc_Token_Token_21.ok k _ κ) h).trans e5)
theorem slices_DeleteFunc_Token_Token_21.call (k : Nat) (hC : ∀ j, k = j + 1 → CallOk Tryd.prog T base w0 (env (α := α) j)) : FnOk Tryd.prog T base w0 (env (α := α) k) 20 := by
  intro X ι h w args xs κ out hX0 R hv e
  have e : env_20 k args κ h = some out := e
  unfold env_20 at e
  match args, hv, e with
  | [a0, a1], hv, e =>
    obtain ⟨_, rfl, e1⟩ := asS_inv e
    obtain ⟨_, _, _, rfl, e2⟩ := asFunc_inv e1
    obtain ⟨hbe3, e3⟩ := need_inv e2
    obtain rfl := Nat.eq_of_beq_eq_true hbe3
    obtain ⟨rfl, e4⟩ := unnil_inv e3
    obtain ⟨rfl, e5⟩ := unnil_inv e4
    cases k with
    | zero => cases e5
    | succ k =>
      exact func_ok wide_ok hX0 tab_ok (hC k rfl) Tryd.func20 (by kernel_rfl : Tryd.f20.body = some slices_DeleteFunc_Token_Token_21.c.code) (by decide) (by kernel_rfl : Tryd.f20.results.toList = slices_DeleteFunc_Token_Token_21.res) (by kernel_rfl : icOk T Tryd.f20.ntmps slices_DeleteFunc_Token_Token_21.c = true) R (fun i h => absurd h (hX0 i)) hv (Nat.le_of_ble_eq_true rfl) ((congrFun (slices_DeleteFunc_Token_Token_21.ok k _ κ) h).trans e5)
theorem spis.call (k : Nat) (hC : ∀ j, k = j + 1 → CallOk Tryd.prog T base w0 (env (α := α) j)) : FnOk Tryd.prog T base w0 (env (α := α) k) 47 := by
  intro X ι h w args xs κ out hX0 R hv e
  have e : env_47 k args κ h = some out := e
  unfold env_47 at e
  match args, hv, e with
  | [a0, a1], hv, e =>
    obtain ⟨_, rfl, e1⟩ := asP_inv e
    obtain ⟨_, rfl, e2⟩ := asSome_inv e1
    obtain ⟨_, rfl, e3⟩ := asStr_inv e2
    cases k with
    | zero => cases e3
    | succ k =>
      exact func_ok wide_ok hX0 tab_ok (hC k rfl) Tryd.func47 (by kernel_rfl : Tryd.f47.body = some spis.c.code) (by decide) (by kernel_rfl : Tryd.f47.results.toList = spis.res) (by kernel_rfl : icOk T Tryd.f47.ntmps spis.c = true) R (fun i h => absurd h (hX0 i)) hv (Nat.le_of_ble_eq_true rfl) ((congrFun (spis.ok k _ _ κ) h).trans e3)
theorem spnext.call (k : Nat) (hC : ∀ j, k = j + 1 → CallOk Tryd.prog T base w0 (env (α := α) j)) : FnOk Tryd.prog T base w0 (env (α := α) k) 56 := by
  intro X ι h w args xs κ out hX0 R hv e
  have e : env_56 k args κ h = some out := e
  unfold env_56 at e
  match args, hv, e with
  | [a0], hv, e =>
    obtain ⟨_, rfl, e1⟩ := asP_inv e
    obtain ⟨_, rfl, e2⟩ := asSome_inv e1
    cases k with
    | zero => cases e2
    | succ k =>
      exact func_ok wide_ok hX0 tab_ok (hC k rfl) Tryd.func56 (by kernel_rfl : Tryd.f56.body = some spnext.c.code) (by decide) (by kernel_rfl : Tryd.f56.results.toList = spnext.res) (by kernel_rfl : icOk T Tryd.f56.ntmps spnext.c = true) R (fun i h => absurd h (hX0 i)) hv (Nat.le_of_ble_eq_true rfl) ((congrFun (spnext.ok k _ κ) h).trans e2)
theorem spmakes.call (k : Nat) (hC : ∀ j, k = j + 1 → CallOk Tryd.prog T base w0 (env (α := α) j)) : FnOk Tryd.prog T base w0 (env (α := α) k) 48 := by
  intro X ι h w args xs κ out hX0 R hv e
  have e : env_48 k args κ h = some out := e
  unfold env_48 at e
  match args, hv, e with
  | [a0], hv, e =>
    obtain ⟨_, rfl, e1⟩ := asP_inv e
    obtain ⟨_, rfl, e2⟩ := asSome_inv e1
    cases k with
    | zero => cases e2
    | succ k =>
      exact func_ok wide_ok hX0 tab_ok (hC k rfl) Tryd.func48 (by kernel_rfl : Tryd.f48.body = some spmakes.c.code) (by decide) (by kernel_rfl : Tryd.f48.results.toList = spmakes.res) (by kernel_rfl : icOk T Tryd.f48.ntmps spmakes.c = true) R (fun i h => absurd h (hX0 i)) hv (Nat.le_of_ble_eq_true rfl) ((congrFun (spmakes.ok k _ κ) h).trans e2)
theorem spnode.call (k : Nat) (hC : ∀ j, k = j + 1 → CallOk Tryd.prog T base w0 (env (α := α) j)) : FnOk Tryd.prog T base w0 (env (α := α) k) 49 := by
  intro X ι h w args xs κ out hX0 R hv e
  have e : env_49 k args κ h = some out := e
  unfold env_49 at e
  match args, hv, e with
  | [a0, a1], hv, e =>
    obtain ⟨_, rfl, e1⟩ := asP_inv e
    obtain ⟨_, rfl, e2⟩ := asSome_inv e1
    obtain ⟨_, rfl, e3⟩ := asAgg_inv e2
    obtain ⟨_, _, rfl, e4⟩ := uncons_inv e3
    obtain ⟨_, rfl, e5⟩ := asI_inv e4
    obtain ⟨_, _, rfl, e6⟩ := uncons_inv e5
    obtain ⟨_, rfl, e7⟩ := asI_inv e6
    obtain ⟨_, _, rfl, e8⟩ := uncons_inv e7
    obtain ⟨_, rfl, e9⟩ := asI_inv e8
    obtain ⟨_, _, rfl, e10⟩ := uncons_inv e9
    obtain ⟨_, rfl, e11⟩ := asStr_inv e10
    obtain ⟨_, _, rfl, e12⟩ := uncons_inv e11
    obtain ⟨_, rfl, e13⟩ := asI_inv e12
    obtain ⟨rfl, e14⟩ := unnil_inv e13
    cases k with
    | zero => cases e14
    | succ k =>
      exact func_ok wide_ok hX0 tab_ok (hC k rfl) Tryd.func49 (by kernel_rfl : Tryd.f49.body = some spnode.c.code) (by decide) (by kernel_rfl : Tryd.f49.results.toList = spnode.res) (by kernel_rfl : icOk T Tryd.f49.ntmps spnode.c = true) R (fun i h => absurd h (hX0 i)) hv (Nat.le_of_ble_eq_true rfl) ((congrFun (spnode.ok k _ _ _ _ _ _ κ) h).trans e14)
theorem spwrong.call (k : Nat) (hC : ∀ j, k = j + 1 → CallOk Tryd.prog T base w0 (env (α := α) j)) : FnOk Tryd.prog T base w0 (env (α := α) k) 23 := by
  intro X ι h w args xs κ out hX0 R hv e
  have e : env_23 k args κ h = some out := e
  unfold env_23 at e
  match args, hv, e with
  | [a0], hv, e =>
    obtain ⟨_, rfl, e1⟩ := asP_inv e
    obtain ⟨_, rfl, e2⟩ := asSome_inv e1
    cases k with
    | zero => cases e2
    | succ k =>
      exact func_ok wide_ok hX0 tab_ok (hC k rfl) Tryd.func23 (by kernel_rfl : Tryd.f23.body = some spwrong.c.code) (by decide) (by kernel_rfl : Tryd.f23.results.toList = spwrong.res) (by kernel_rfl : icOk T Tryd.f23.ntmps spwrong.c = true) R (fun i h => absurd h (hX0 i)) hv (Nat.le_of_ble_eq_true rfl) ((congrFun (spwrong.ok k _ κ) h).trans e2)
theorem syntax_word.call (k : Nat) (hC : ∀ j, k = j + 1 → CallOk Tryd.prog T base w0 (env (α := α) j)) : FnOk Tryd.prog T base w0 (env (α := α) k) 42 := by
  intro X ι h w args xs κ out hX0 R hv e
  have e : env_42 k args κ h = some out := e
  unfold env_42 at e
  match args, hv, e with
  | [a0], hv, e =>
    obtain ⟨_, rfl, e1⟩ := asStr_inv e
    cases k with
    | zero => cases e1
    | succ k =>
      exact func_ok wide_ok hX0 tab_ok (hC k rfl) Tryd.func42 (by kernel_rfl : Tryd.f42.body = some syntax_word.c.code) (by decide) (by kernel_rfl : Tryd.f42.results.toList = syntax_word.res) (by kernel_rfl : icOk T Tryd.f42.ntmps syntax_word.c = true) R (fun i h => absurd h (hX0 i)) hv (Nat.le_of_ble_eq_true rfl) ((congrFun (syntax_word.ok k _ κ) h).trans e1)
theorem spneed.call (k : Nat) (hC : ∀ j, k = j + 1 → CallOk Tryd.prog T base w0 (env (α := α) j)) : FnOk Tryd.prog T base w0 (env (α := α) k) 58 := by
  intro X ι h w args xs κ out hX0 R hv e
  have e : env_58 k args κ h = some out := e
  unfold env_58 at e
  match args, hv, e with
  | [a0, a1], hv, e =>
    obtain ⟨_, rfl, e1⟩ := asP_inv e
    obtain ⟨_, rfl, e2⟩ := asSome_inv e1
    obtain ⟨_, rfl, e3⟩ := asStr_inv e2
    cases k with
    | zero => cases e3
    | succ k =>
      exact func_ok wide_ok hX0 tab_ok (hC k rfl) Tryd.func58 (by kernel_rfl : Tryd.f58.body = some spneed.c.code) (by decide) (by kernel_rfl : Tryd.f58.results.toList = spneed.res) (by kernel_rfl : icOk T Tryd.f58.ntmps spneed.c = true) R (fun i h => absurd h (hX0 i)) hv (Nat.le_of_ble_eq_true rfl) ((congrFun (spneed.ok k _ _ κ) h).trans e3)
theorem spstep.call (k : Nat) (hC : ∀ j, k = j + 1 → CallOk Tryd.prog T base w0 (env (α := α) j)) : FnOk Tryd.prog T base w0 (env (α := α) k) 57 := by
  intro X ι h w args xs κ out hX0 R hv e
  have e : env_57 k args κ h = some out := e
  unfold env_57 at e
  match args, hv, e with
  | [a0, a1], hv, e =>
    obtain ⟨_, rfl, e1⟩ := asP_inv e
    obtain ⟨_, rfl, e2⟩ := asSome_inv e1
    obtain ⟨_, rfl, e3⟩ := asStr_inv e2
    cases k with
    | zero => cases e3
    | succ k =>
      exact func_ok wide_ok hX0 tab_ok (hC k rfl) Tryd.func57 (by kernel_rfl : Tryd.f57.body = some spstep.c.code) (by decide) (by kernel_rfl : Tryd.f57.results.toList = spstep.res) (by kernel_rfl : icOk T Tryd.f57.ntmps spstep.c = true) R (fun i h => absurd h (hX0 i)) hv (Nat.le_of_ble_eq_true rfl) ((congrFun (spstep.ok k _ _ κ) h).trans e3)
theorem spformula.call (k : Nat) (hC : ∀ j, k = j + 1 → CallOk Tryd.prog T base w0 (env (α := α) j)) : FnOk Tryd.prog T base w0 (env (α := α) k) 22 := by
  intro X ι h w args xs κ out hX0 R hv e
  have e : env_22 k args κ h = some out := e
  unfold env_22 at e
  match args, hv, e with
  | [a0], hv, e =>
    obtain ⟨_, rfl, e1⟩ := asP_inv e
    obtain ⟨_, rfl, e2⟩ := asSome_inv e1
    cases k with
    | zero => cases e2
    | succ k =>
      exact func_ok wide_ok hX0 tab_ok (hC k rfl) Tryd.func22 (by kernel_rfl : Tryd.f22.body = some spformula.c.code) (by decide) (by kernel_rfl : Tryd.f22.results.toList = spformula.res) (by kernel_rfl : icOk T Tryd.f22.ntmps spformula.c = true) R (fun i h => absurd h (hX0 i)) hv (Nat.le_of_ble_eq_true rfl) ((congrFun (spformula.ok k _ κ) h).trans e2)
theorem sprow.call (k : Nat) (hC : ∀ j, k = j + 1 → CallOk Tryd.prog T base w0 (env (α := α) j)) : FnOk Tryd.prog T base w0 (env (α := α) k) 33 := by
  intro X ι h w args xs κ out hX0 R hv e
  have e : env_33 k args κ h = some out := e
  unfold env_33 at e
  match args, hv, e with
  | [a0, a1, a2, a3], hv, e =>
    obtain ⟨_, rfl, e1⟩ := asP_inv e
    obtain ⟨_, rfl, e2⟩ := asSome_inv e1
    obtain ⟨_, rfl, e3⟩ := asStr_inv e2
    obtain ⟨_, rfl, e4⟩ := asI_inv e3
    cases k with
    | zero => cases e4
    | succ k =>
      exact func_ok wide_ok hX0 tab_ok (hC k rfl) Tryd.func33 (by kernel_rfl : Tryd.f33.body = some sprow.c.code) (by decide) (by kernel_rfl : Tryd.f33.results.toList = sprow.res) (by kernel_rfl : icOk T Tryd.f33.ntmps sprow.c = true) R (fun i h => absurd h (hX0 i)) hv (Nat.le_of_ble_eq_true rfl) ((congrFun (sprow.ok k _ _ _ _ κ) h).trans e4)
theorem spand.call (k : Nat) (hC : ∀ j, k = j + 1 → CallOk Tryd.prog T base w0 (env (α := α) j)) : FnOk Tryd.prog T base w0 (env (α := α) k) 34 := by
  intro X ι h w args xs κ out hX0 R hv e
  have e : env_34 k args κ h = some out := e
  unfold env_34 at e
  match args, hv, e with
  | [a0], hv, e =>
    obtain ⟨_, rfl, e1⟩ := asP_inv e
    obtain ⟨_, rfl, e2⟩ := asSome_inv e1
    cases k with
    | zero => cases e2
    | succ k =>
      exact func_ok wide_ok hX0 tab_ok (hC k rfl) Tryd.func34 (by kernel_rfl : Tryd.f34.body = some spand.c.code) (by decide) (by kernel_rfl : Tryd.f34.results.toList = spand.res) (by kernel_rfl : icOk T Tryd.f34.ntmps spand.c = true) R (fun i h => absurd h (hX0 i)) hv (Nat.le_of_ble_eq_true rfl) ((congrFun (spand.ok k _ κ) h).trans e2)
theorem spunary.call (k : Nat) (hC : ∀ j, k = j + 1 → CallOk Tryd.prog T base w0 (env (α := α) j)) : FnOk Tryd.prog T base w0 (env (α := α) k) 50 := by
  intro X ι h w args xs κ out hX0 R hv e
  have e : env_50 k args κ h = some out := e
  unfold env_50 at e
  match args, hv, e with
  | [a0], hv, e =>
    obtain ⟨_, rfl, e1⟩ := asP_inv e
    obtain ⟨_, rfl, e2⟩ := asSome_inv e1
    cases k with
    | zero => cases e2
    | succ k =>
      exact func_ok wide_ok hX0 tab_ok (hC k rfl) Tryd.func50 (by kernel_rfl : Tryd.f50.body = some spunary.c.code) (by decide) (by kernel_rfl : Tryd.f50.results.toList = spunary.res) (by kernel_rfl : icOk T Tryd.f50.ntmps spunary.c = true) R (fun i h => absurd h (hX0 i)) hv (Nat.le_of_ble_eq_true rfl) ((congrFun (spunary.ok k _ κ) h).trans e2)
theorem spword.call (k : Nat) (hC : ∀ j, k = j + 1 → CallOk Tryd.prog T base w0 (env (α := α) j)) : FnOk Tryd.prog T base w0 (env (α := α) k) 59 := by
  intro X ι h w args xs κ out hX0 R hv e
  have e : env_59 k args κ h = some out := e
  unfold env_59 at e
  match args, hv, e with
  | [a0], hv, e =>
    obtain ⟨_, rfl, e1⟩ := asP_inv e
    obtain ⟨_, rfl, e2⟩ := asSome_inv e1
    cases k with
    | zero => cases e2
    | succ k =>
      exact func_ok wide_ok hX0 tab_ok (hC k rfl) Tryd.func59 (by kernel_rfl : Tryd.f59.body = some spword.c.code) (by decide) (by kernel_rfl : Tryd.f59.results.toList = spword.res) (by kernel_rfl : icOk T Tryd.f59.ntmps spword.c = true) R (fun i h => absurd h (hX0 i)) hv (Nat.le_of_ble_eq_true rfl) ((congrFun (spword.ok k _ κ) h).trans e2)
theorem syntax_Parse.call (k : Nat) (hC : ∀ j, k = j + 1 → CallOk Tryd.prog T base w0 (env (α := α) j)) : FnOk Tryd.prog T base w0 (env (α := α) k) 9 := by
  intro X ι h w args xs κ out hX0 R hv e
  have e : env_9 k args κ h = some out := e
  unfold env_9 at e
  match args, hv, e with
  | [a0], hv, e =>
    obtain ⟨_, rfl, e1⟩ := asStr_inv e
    cases k with
    | zero => cases e1
    | succ k =>
      exact defer_calls (pre := syntax_Parse.as) (B := syntax_Parse.u2.c) (C := syntax_Parse.C.u1.c) (id := 4) (t := 14) (ops := opsOf Tryd.f9 4) (mk := opAt Tryd.f9 4 0) (df := opAt Tryd.f9 4 1) (g := 19) (caps := [.tmp 2, .tmp 3]) (idr := 0) (d0 := 5) (rops := opsOf Tryd.f19 0) (ro := opAt Tryd.f19 0 0) (rs := syntax_Parse.res) (keep := [2, 3]) (dts := #[]) (cts := #[]) wide_ok hX0 tab_ok (hC k rfl) Tryd.func9 (by kernel_rfl : Tryd.f9.body = some (nest syntax_Parse.as (.seq (.region 4 (opsOf Tryd.f9 4) false) syntax_Parse.u2.c.code))) (by decide) (by kernel_rfl) (by kernel_rfl) (by kernel_rfl) (by kernel_rfl) (by decide) (by decide) (by kernel_rfl) (by kernel_rfl) (by kernel_rfl) (by kernel_rfl) (by kernel_rfl) (by kernel_rfl) (by kernel_rfl) Tryd.func19 (by decide) (by kernel_rfl : Tryd.f19.body = some (.seq (.region 0 (opsOf Tryd.f19 0) false) syntax_Parse.C.u1.c.code)) (by kernel_rfl) (by kernel_rfl) (by kernel_rfl) (by kernel_rfl) (by kernel_rfl) (by kernel_rfl) (by decide) (by decide) R hv (Nat.le_of_ble_eq_true rfl) ((congrFun (syntax_Parse.ok k _ κ) h).trans e1)
theorem syntax_spelt.call (k : Nat) (hC : ∀ j, k = j + 1 → CallOk Tryd.prog T base w0 (env (α := α) j)) : FnOk Tryd.prog T base w0 (env (α := α) k) 41 := by
  intro X ι h w args xs κ out hX0 R hv e
  have e : env_41 k args κ h = some out := e
  unfold env_41 at e
  match args, hv, e with
  | [a0, a1, a2], hv, e =>
    obtain ⟨_, rfl, e1⟩ := asStr_inv e
    obtain ⟨_, rfl, e2⟩ := asI_inv e1
    obtain ⟨_, rfl, e3⟩ := asI_inv e2
    cases k with
    | zero => cases e3
    | succ k =>
      exact func_ok wide_ok hX0 tab_ok (hC k rfl) Tryd.func41 (by kernel_rfl : Tryd.f41.body = some syntax_spelt.c.code) (by decide) (by kernel_rfl : Tryd.f41.results.toList = syntax_spelt.res) (by kernel_rfl : icOk T Tryd.f41.ntmps syntax_spelt.c = true) R (fun i h => absurd h (hX0 i)) hv (Nat.le_of_ble_eq_true rfl) ((congrFun (syntax_spelt.ok k _ _ _ κ) h).trans e3)
theorem syntax_name.call (k : Nat) (hC : ∀ j, k = j + 1 → CallOk Tryd.prog T base w0 (env (α := α) j)) : FnOk Tryd.prog T base w0 (env (α := α) k) 27 := by
  intro X ι h w args xs κ out hX0 R hv e
  have e : env_27 k args κ h = some out := e
  unfold env_27 at e
  match args, hv, e with
  | [a0], hv, e =>
    obtain ⟨_, rfl, e1⟩ := asStr_inv e
    cases k with
    | zero => cases e1
    | succ k =>
      exact func_ok wide_ok hX0 tab_ok (hC k rfl) Tryd.func27 (by kernel_rfl : Tryd.f27.body = some syntax_name.c.code) (by decide) (by kernel_rfl : Tryd.f27.results.toList = syntax_name.res) (by kernel_rfl : icOk T Tryd.f27.ntmps syntax_name.c = true) R (fun i h => absurd h (hX0 i)) hv (Nat.le_of_ble_eq_true rfl) ((congrFun (syntax_name.ok k _ κ) h).trans e1)
theorem syntax_variable.call (k : Nat) (hC : ∀ j, k = j + 1 → CallOk Tryd.prog T base w0 (env (α := α) j)) : FnOk Tryd.prog T base w0 (env (α := α) k) 28 := by
  intro X ι h w args xs κ out hX0 R hv e
  have e : env_28 k args κ h = some out := e
  unfold env_28 at e
  match args, hv, e with
  | [a0], hv, e =>
    obtain ⟨_, rfl, e1⟩ := asStr_inv e
    cases k with
    | zero => cases e1
    | succ k =>
      exact func_ok wide_ok hX0 tab_ok (hC k rfl) Tryd.func28 (by kernel_rfl : Tryd.f28.body = some syntax_variable.c.code) (by decide) (by kernel_rfl : Tryd.f28.results.toList = syntax_variable.res) (by kernel_rfl : icOk T Tryd.f28.ntmps syntax_variable.c = true) R (fun i h => absurd h (hX0 i)) hv (Nat.le_of_ble_eq_true rfl) ((congrFun (syntax_variable.ok k _ κ) h).trans e1)
theorem syntax_below.call (k : Nat) (hC : ∀ j, k = j + 1 → CallOk Tryd.prog T base w0 (env (α := α) j)) : FnOk Tryd.prog T base w0 (env (α := α) k) 14 := by
  intro X ι h w args xs κ out hX0 R hv e
  have e : env_14 k args κ h = some out := e
  unfold env_14 at e
  match args, hv, e with
  | [a0], hv, e =>
    obtain ⟨_, rfl, e1⟩ := asAgg_inv e
    obtain ⟨_, _, rfl, e2⟩ := uncons_inv e1
    obtain ⟨_, rfl, e3⟩ := asI_inv e2
    obtain ⟨_, _, rfl, e4⟩ := uncons_inv e3
    obtain ⟨_, rfl, e5⟩ := asI_inv e4
    obtain ⟨_, _, rfl, e6⟩ := uncons_inv e5
    obtain ⟨_, rfl, e7⟩ := asI_inv e6
    obtain ⟨_, _, rfl, e8⟩ := uncons_inv e7
    obtain ⟨_, rfl, e9⟩ := asStr_inv e8
    obtain ⟨_, _, rfl, e10⟩ := uncons_inv e9
    obtain ⟨_, rfl, e11⟩ := asI_inv e10
    obtain ⟨rfl, e12⟩ := unnil_inv e11
    cases k with
    | zero => cases e12
    | succ k =>
      exact func_ok wide_ok hX0 tab_ok (hC k rfl) Tryd.func14 (by kernel_rfl : Tryd.f14.body = some syntax_below.c.code) (by decide) (by kernel_rfl : Tryd.f14.results.toList = syntax_below.res) (by kernel_rfl : icOk T Tryd.f14.ntmps syntax_below.c = true) R (fun i h => absurd h (hX0 i)) hv (Nat.le_of_ble_eq_true rfl) ((congrFun (syntax_below.ok k _ _ _ _ _ κ) h).trans e12)
theorem syntax_Right_c1.call (k : Nat) (hC : ∀ j, k = j + 1 → CallOk Tryd.prog T base w0 (env (α := α) j)) : FnOk Tryd.prog T base w0 (env (α := α) k) 16 := by
  intro X ι h w args xs κ out hX0 R hv e
  have e : env_16 k args κ h = some out := e
  unfold env_16 at e
  match args, hv, e with
  | [a0], hv, e =>
    obtain ⟨_, rfl, e1⟩ := asI_inv e
    cases k with
    | zero => cases e1
    | succ k =>
      exact func_ok wide_ok hX0 tab_ok (hC k rfl) Tryd.func16 (by kernel_rfl : Tryd.f16.body = some syntax_Right_c1.c.code) (by decide) (by kernel_rfl : Tryd.f16.results.toList = syntax_Right_c1.res) (by kernel_rfl : icOk T Tryd.f16.ntmps syntax_Right_c1.c = true) R (fun i h => absurd h (hX0 i)) hv (Nat.le_of_ble_eq_true rfl) ((congrFun (syntax_Right_c1.ok k _ κ) h).trans e1)
theorem slices_IndexFunc_int_int_16.call (k : Nat) (hC : ∀ j, k = j + 1 → CallOk Tryd.prog T base w0 (env (α := α) j)) : FnOk Tryd.prog T base w0 (env (α := α) k) 29 := by
  intro X ι h w args xs κ out hX0 R hv e
  have e : env_29 k args κ h = some out := e
  unfold env_29 at e
  match args, hv, e with
  | [a0, a1], hv, e =>
    obtain ⟨_, rfl, e1⟩ := asS_inv e
    obtain ⟨_, _, _, rfl, e2⟩ := asFunc_inv e1
    obtain ⟨hbe3, e3⟩ := need_inv e2
    obtain rfl := Nat.eq_of_beq_eq_true hbe3
    obtain ⟨rfl, e4⟩ := unnil_inv e3
    obtain ⟨rfl, e5⟩ := unnil_inv e4
    cases k with
    | zero => cases e5
    | succ k =>
      exact func_ok wide_ok hX0 tab_ok (hC k rfl) Tryd.func29 (by kernel_rfl : Tryd.f29.body = some slices_IndexFunc_int_int_16.c.code) (by decide) (by kernel_rfl : Tryd.f29.results.toList = slices_IndexFunc_int_int_16.res) (by kernel_rfl : icOk T Tryd.f29.ntmps slices_IndexFunc_int_int_16.c = true) R (fun i h => absurd h (hX0 i)) hv (Nat.le_of_ble_eq_true rfl) ((congrFun (slices_IndexFunc_int_int_16.ok k _ κ) h).trans e5)
theorem slices_ContainsFunc_int_int_16.call (k : Nat) (hC : ∀ j, k = j + 1 → CallOk Tryd.prog T base w0 (env (α := α) j)) : FnOk Tryd.prog T base w0 (env (α := α) k) 15 := by
  intro X ι h w args xs κ out hX0 R hv e
  have e : env_15 k args κ h = some out := e
  unfold env_15 at e
  match args, hv, e with
  | [a0, a1], hv, e =>
    obtain ⟨_, rfl, e1⟩ := asS_inv e
    obtain ⟨_, _, _, rfl, e2⟩ := asFunc_inv e1
    obtain ⟨hbe3, e3⟩ := need_inv e2
    obtain rfl := Nat.eq_of_beq_eq_true hbe3
    obtain ⟨rfl, e4⟩ := unnil_inv e3
    obtain ⟨rfl, e5⟩ := unnil_inv e4
    cases k with
    | zero => cases e5
    | succ k =>
      exact func_ok wide_ok hX0 tab_ok (hC k rfl) Tryd.func15 (by kernel_rfl : Tryd.f15.body = some slices_ContainsFunc_int_int_16.c.code) (by decide) (by kernel_rfl : Tryd.f15.results.toList = slices_ContainsFunc_int_int_16.res) (by kernel_rfl : icOk T Tryd.f15.ntmps slices_ContainsFunc_int_int_16.c = true) R (fun i h => absurd h (hX0 i)) hv (Nat.le_of_ble_eq_true rfl) ((congrFun (slices_ContainsFunc_int_int_16.ok k _ κ) h).trans e5)
theorem slEq.call (k : Nat) (hC : ∀ j, k = j + 1 → CallOk Tryd.prog T base w0 (env (α := α) j)) : FnOk Tryd.prog T base w0 (env (α := α) k) 17 := by
  intro X ι h w args xs κ out hX0 R hv e
  have e : env_17 k args κ h = some out := e
  unfold env_17 at e
  match args, hv, e with
  | [a0, a1], hv, e =>
    obtain ⟨_, rfl, e1⟩ := asS_inv e
    obtain ⟨_, rfl, e2⟩ := asS_inv e1
    cases k with
    | zero => cases e2
    | succ k =>
      exact func_ok wide_ok hX0 tab_ok (hC k rfl) Tryd.func17 (by kernel_rfl : Tryd.f17.body = some slEq.c.code) (by decide) (by kernel_rfl : Tryd.f17.results.toList = slEq.res) (by kernel_rfl : icOk T Tryd.f17.ntmps slEq.c = true) R (fun i h => absurd h (hX0 i)) hv (Nat.le_of_ble_eq_true rfl) ((congrFun (slEq.ok k _ _ κ) h).trans e2)
theorem syntax_Right.call (k : Nat) (hC : ∀ j, k = j + 1 → CallOk Tryd.prog T base w0 (env (α := α) j)) : FnOk Tryd.prog T base w0 (env (α := α) k) 8 := by
  intro X ι h w args xs κ out hX0 R hv e
  have e : env_8 k args κ h = some out := e
  unfold env_8 at e
  match args, hv, e with
  | [a0], hv, e =>
    obtain ⟨_, rfl, e1⟩ := asS_inv e
    cases k with
    | zero => cases e1
    | succ k =>
      exact func_ok wide_ok hX0 tab_ok (hC k rfl) Tryd.func8 (by kernel_rfl : Tryd.f8.body = some syntax_Right.c.code) (by decide) (by kernel_rfl : Tryd.f8.results.toList = syntax_Right.res) (by kernel_rfl : icOk T Tryd.f8.ntmps syntax_Right.c = true) R (fun i h => absurd h (hX0 i)) hv (Nat.le_of_ble_eq_true rfl) ((congrFun (syntax_Right.ok k _ κ) h).trans e1)
theorem strings_Builder_WriteString.call (k : Nat) (hC : ∀ j, k = j + 1 → CallOk Tryd.prog T base w0 (env (α := α) j)) : FnOk Tryd.prog T base w0 (env (α := α) k) 25 := by
  intro X ι h w args xs κ out hX0 R hv e
  have e : env_25 k args κ h = some out := e
  unfold env_25 at e
  match args, hv, e with
  | [a0, a1], hv, e =>
    obtain ⟨_, rfl, e1⟩ := asP_inv e
    obtain ⟨_, rfl, e2⟩ := asSome_inv e1
    obtain ⟨_, rfl, e3⟩ := asStr_inv e2
    cases k with
    | zero => cases e3
    | succ k =>
      exact func_ok wide_ok hX0 tab_ok (hC k rfl) Tryd.func25 (by kernel_rfl : Tryd.f25.body = some strings_Builder_WriteString.c.code) (by decide) (by kernel_rfl : Tryd.f25.results.toList = strings_Builder_WriteString.res) (by kernel_rfl : icOk T Tryd.f25.ntmps strings_Builder_WriteString.c = true) R (fun i h => absurd h (hX0 i)) hv (Nat.le_of_ble_eq_true rfl) ((congrFun (strings_Builder_WriteString.ok k _ _ κ) h).trans e3)
theorem syntax_fix.call (k : Nat) (hC : ∀ j, k = j + 1 → CallOk Tryd.prog T base w0 (env (α := α) j)) : FnOk Tryd.prog T base w0 (env (α := α) k) 40 := by
  intro X ι h w args xs κ out hX0 R hv e
  have e : env_40 k args κ h = some out := e
  unfold env_40 at e
  match args, hv, e with
  | [a0], hv, e =>
    obtain ⟨_, rfl, e1⟩ := asI_inv e
    cases k with
    | zero => cases e1
    | succ k =>
      exact func_ok wide_ok hX0 tab_ok (hC k rfl) Tryd.func40 (by kernel_rfl : Tryd.f40.body = some syntax_fix.c.code) (by decide) (by kernel_rfl : Tryd.f40.results.toList = syntax_fix.res) (by kernel_rfl : icOk T Tryd.f40.ntmps syntax_fix.c = true) R (fun i h => absurd h (hX0 i)) hv (Nat.le_of_ble_eq_true rfl) ((congrFun (syntax_fix.ok k _ κ) h).trans e1)
theorem syntax_write.call (k : Nat) (hC : ∀ j, k = j + 1 → CallOk Tryd.prog T base w0 (env (α := α) j)) : FnOk Tryd.prog T base w0 (env (α := α) k) 12 := by
  intro X ι h w args xs κ out hX0 R hv e
  have e : env_12 k args κ h = some out := e
  unfold env_12 at e
  match args, hv, e with
  | [a0, a1, a2], hv, e =>
    obtain ⟨_, rfl, e1⟩ := asP_inv e
    obtain ⟨_, rfl, e2⟩ := asSome_inv e1
    obtain ⟨_, rfl, e3⟩ := asS_inv e2
    obtain ⟨_, rfl, e4⟩ := asI_inv e3
    cases k with
    | zero => cases e4
    | succ k =>
      exact func_ok wide_ok hX0 tab_ok (hC k rfl) Tryd.func12 (by kernel_rfl : Tryd.f12.body = some syntax_write.c.code) (by decide) (by kernel_rfl : Tryd.f12.results.toList = syntax_write.res) (by kernel_rfl : icOk T Tryd.f12.ntmps syntax_write.c = true) R (fun i h => absurd h (hX0 i)) hv (Nat.le_of_ble_eq_true rfl) ((congrFun (syntax_write.ok k _ _ _ κ) h).trans e4)
theorem syntax_operand.call (k : Nat) (hC : ∀ j, k = j + 1 → CallOk Tryd.prog T base w0 (env (α := α) j)) : FnOk Tryd.prog T base w0 (env (α := α) k) 26 := by
  intro X ι h w args xs κ out hX0 R hv e
  have e : env_26 k args κ h = some out := e
  unfold env_26 at e
  match args, hv, e with
  | [a0, a1, a2, a3, a4], hv, e =>
    obtain ⟨_, rfl, e1⟩ := asP_inv e
    obtain ⟨_, rfl, e2⟩ := asSome_inv e1
    obtain ⟨_, rfl, e3⟩ := asS_inv e2
    obtain ⟨_, rfl, e4⟩ := asI_inv e3
    obtain ⟨_, rfl, e5⟩ := asI_inv e4
    obtain ⟨_, rfl, e6⟩ := asB_inv e5
    cases k with
    | zero => cases e6
    | succ k =>
      exact func_ok wide_ok hX0 tab_ok (hC k rfl) Tryd.func26 (by kernel_rfl : Tryd.f26.body = some syntax_operand.c.code) (by decide) (by kernel_rfl : Tryd.f26.results.toList = syntax_operand.res) (by kernel_rfl : icOk T Tryd.f26.ntmps syntax_operand.c = true) R (fun i h => absurd h (hX0 i)) hv (Nat.le_of_ble_eq_true rfl) ((congrFun (syntax_operand.ok k _ _ _ _ _ κ) h).trans e6)
theorem syntax_Print.call (k : Nat) (hC : ∀ j, k = j + 1 → CallOk Tryd.prog T base w0 (env (α := α) j)) : FnOk Tryd.prog T base w0 (env (α := α) k) 7 := by
  intro X ι h w args xs κ out hX0 R hv e
  have e : env_7 k args κ h = some out := e
  unfold env_7 at e
  match args, hv, e with
  | [a0], hv, e =>
    obtain ⟨_, rfl, e1⟩ := asS_inv e
    cases k with
    | zero => cases e1
    | succ k =>
      exact func_ok wide_ok hX0 tab_ok (hC k rfl) Tryd.func7 (by kernel_rfl : Tryd.f7.body = some syntax_Print.c.code) (by decide) (by kernel_rfl : Tryd.f7.results.toList = syntax_Print.res) (by kernel_rfl : icOk T Tryd.f7.ntmps syntax_Print.c = true) R (fun i h => absurd h (hX0 i)) hv (Nat.le_of_ble_eq_true rfl) ((congrFun (syntax_Print.ok k _ κ) h).trans e1)
theorem w4shown.call (k : Nat) (hC : ∀ j, k = j + 1 → CallOk Tryd.prog T base w0 (env (α := α) j)) : FnOk Tryd.prog T base w0 (env (α := α) k) 6 := by
  intro X ι h w args xs κ out hX0 R hv e
  have e : env_6 k args κ h = some out := e
  unfold env_6 at e
  match args, hv, e with
  | [], hv, e =>
    cases k with
    | zero => cases e
    | succ k =>
      exact func_ok wide_ok hX0 tab_ok (hC k rfl) Tryd.func6 (by kernel_rfl : Tryd.f6.body = some w4shown.c.code) (by decide) (by kernel_rfl : Tryd.f6.results.toList = w4shown.res) (by kernel_rfl : icOk T Tryd.f6.ntmps w4shown.c = true) R (fun i h => absurd h (hX0 i)) hv (Nat.le_of_ble_eq_true rfl) ((congrFun (w4shown.ok k κ) h).trans e)
theorem w4fault.call (k : Nat) (hC : ∀ j, k = j + 1 → CallOk Tryd.prog T base w0 (env (α := α) j)) : FnOk Tryd.prog T base w0 (env (α := α) k) 11 := by
  intro X ι h w args xs κ out hX0 R hv e
  have e : env_11 k args κ h = some out := e
  unfold env_11 at e
  match args, hv, e with
  | [a0], hv, e =>
    cases k with
    | zero => cases e
    | succ k =>
      exact func_ok wide_ok hX0 tab_ok (hC k rfl) Tryd.func11 (by kernel_rfl : Tryd.f11.body = some w4fault.c.code) (by decide) (by kernel_rfl : Tryd.f11.results.toList = w4fault.res) (by kernel_rfl : icOk T Tryd.f11.ntmps w4fault.c = true) R (fun i h => absurd h (hX0 i)) hv (Nat.le_of_ble_eq_true rfl) ((congrFun (w4fault.ok k _ κ) h).trans e)
theorem w4SyntaxBrackets.call (k : Nat) (hC : ∀ j, k = j + 1 → CallOk Tryd.prog T base w0 (env (α := α) j)) : FnOk Tryd.prog T base w0 (env (α := α) k) 4 := by
  intro X ι h w args xs κ out hX0 R hv e
  have e : env_4 k args κ h = some out := e
  unfold env_4 at e
  match args, hv, e with
  | [a0], hv, e =>
    obtain ⟨_, rfl, e1⟩ := asStr_inv e
    cases k with
    | zero => cases e1
    | succ k =>
      exact func_ok wide_ok hX0 tab_ok (hC k rfl) Tryd.func4 (by kernel_rfl : Tryd.f4.body = some w4SyntaxBrackets.c.code) (by decide) (by kernel_rfl : Tryd.f4.results.toList = w4SyntaxBrackets.res) (by kernel_rfl : icOk T Tryd.f4.ntmps w4SyntaxBrackets.c = true) R (fun i h => absurd h (hX0 i)) hv (Nat.le_of_ble_eq_true rfl) ((congrFun (w4SyntaxBrackets.ok k _ κ) h).trans e1)
theorem r4Same.call (k : Nat) (hC : ∀ j, k = j + 1 → CallOk Tryd.prog T base w0 (env (α := α) j)) : FnOk Tryd.prog T base w0 (env (α := α) k) 10 := by
  intro X ι h w args xs κ out hX0 R hv e
  have e : env_10 k args κ h = some out := e
  unfold env_10 at e
  match args, hv, e with
  | [a0, a1, a2], hv, e =>
    obtain ⟨_, rfl, e1⟩ := asS_inv e
    obtain ⟨_, rfl, e2⟩ := asS_inv e1
    obtain ⟨_, rfl, e3⟩ := asB_inv e2
    cases k with
    | zero => cases e3
    | succ k =>
      exact func_ok wide_ok hX0 tab_ok (hC k rfl) Tryd.func10 (by kernel_rfl : Tryd.f10.body = some r4Same.c.code) (by decide) (by kernel_rfl : Tryd.f10.results.toList = r4Same.res) (by kernel_rfl : icOk T Tryd.f10.ntmps r4Same.c = true) R (fun i h => absurd h (hX0 i)) hv (Nat.le_of_ble_eq_true rfl) ((congrFun (r4Same.ok k _ _ _ κ) h).trans e3)
end
end Go.Ab.S6
