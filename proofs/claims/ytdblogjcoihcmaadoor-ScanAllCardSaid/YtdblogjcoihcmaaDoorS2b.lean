import Derived.Test.YtdblogjcoihcmaaDoorAb15
import Derived.Test.YtdblogjcoihcmaaDoorS2a
namespace Go.Ab.S2
open Go.Proofs
set_option linter.unusedVariables false
set_option linter.unusedSimpArgs false
variable {α : Type} {base : Nat} {w0 : World}
theorem wide_ok : Tryd.prog.follows .mixedOrders = true := by kernel_rfl
theorem ti3 {i : TI} (h : ti 3 = some i) : TIOk Tryd.prog 3 i := by
  cases h
  exact TIOk.of 113 Tryd.underlying3 Tryd.type3 rfl rfl rfl rfl rfl rfl rfl rfl rfl Tryd.types_size rfl (nofun)
theorem ti4 {i : TI} (h : ti 4 = some i) : TIOk Tryd.prog 4 i := by
  cases h
  exact TIOk.of 113 Tryd.underlying4 Tryd.type4 rfl rfl rfl rfl rfl rfl rfl rfl rfl Tryd.types_size rfl (nofun)
theorem ti5 {i : TI} (h : ti 5 = some i) : TIOk Tryd.prog 5 i := by
  cases h
  exact TIOk.of 113 Tryd.underlying5 Tryd.type5 rfl rfl rfl rfl rfl rfl rfl rfl rfl Tryd.types_size rfl (nofun)
theorem ti9 {i : TI} (h : ti 9 = some i) : TIOk Tryd.prog 9 i := by
  cases h
  exact TIOk.of 113 Tryd.underlying9 Tryd.type9 rfl rfl rfl rfl rfl rfl rfl rfl rfl Tryd.types_size rfl (nofun)
theorem ti23 {i : TI} (h : ti 23 = some i) : TIOk Tryd.prog 23 i := by
  cases h
  exact TIOk.of 113 Tryd.underlying23 Tryd.type23 rfl rfl rfl rfl rfl rfl rfl rfl rfl Tryd.types_size rfl (nofun)
theorem ti25 {i : TI} (h : ti 25 = some i) : TIOk Tryd.prog 25 i := by
  cases h
  exact TIOk.of 113 Tryd.underlying25 Tryd.type25 rfl rfl rfl rfl rfl rfl rfl rfl rfl Tryd.types_size rfl (nofun)
theorem ti28 {i : TI} (h : ti 28 = some i) : TIOk Tryd.prog 28 i := by
  cases h
  exact TIOk.of 113 Tryd.underlying28 Tryd.type28 rfl rfl rfl rfl rfl rfl rfl rfl rfl Tryd.types_size rfl (nofun)
theorem ti35 {i : TI} (h : ti 35 = some i) : TIOk Tryd.prog 35 i := by
  cases h
  exact TIOk.of 113 Tryd.underlying35 Tryd.type35 rfl rfl rfl rfl rfl rfl rfl rfl trivial Tryd.types_size rfl (fun _ => plain_struct Tryd.underlying35 Tryd.stoodInHeld35 Tryd.eqGuardType35 ⟨by decide, rfl, Tryd.underlying3, ⟨by decide, rfl, Tryd.underlying3, ⟨by decide, rfl, Tryd.underlying9, ⟨by decide, rfl, Tryd.underlying3, trivial⟩⟩⟩⟩)
theorem ti38 {i : TI} (h : ti 38 = some i) : TIOk Tryd.prog 38 i := by
  cases h
  exact TIOk.of 113 Tryd.underlying38 Tryd.type38 rfl rfl rfl rfl rfl rfl rfl rfl rfl Tryd.types_size rfl (nofun)
theorem ti42 {i : TI} (h : ti 42 = some i) : TIOk Tryd.prog 42 i := by
  cases h
  exact TIOk.of 113 Tryd.underlying42 Tryd.type42 rfl rfl rfl rfl rfl rfl rfl rfl rfl Tryd.types_size rfl (nofun)
theorem ti44 {i : TI} (h : ti 44 = some i) : TIOk Tryd.prog 44 i := by
  cases h
  exact TIOk.of 113 Tryd.underlying44 Tryd.type44 rfl rfl rfl rfl rfl rfl rfl rfl trivial Tryd.types_size rfl (fun _ => plain_struct Tryd.underlying44 Tryd.stoodInHeld44 Tryd.eqGuardType44 ⟨by decide, rfl, Tryd.underlying3, ⟨by decide, rfl, Tryd.underlying28, trivial⟩⟩)
theorem ti49 {i : TI} (h : ti 49 = some i) : TIOk Tryd.prog 49 i := by
  cases h
  exact TIOk.of 113 Tryd.underlying49 Tryd.type49 rfl rfl rfl rfl rfl rfl rfl rfl rfl Tryd.types_size rfl (nofun)
theorem tab_ok : TabOk Tryd.prog T := by
  refine ⟨fun t i h => ?_⟩
  by_cases h3 : t = 3
  · subst h3; exact ti3 h
  by_cases h4 : t = 4
  · subst h4; exact ti4 h
  by_cases h5 : t = 5
  · subst h5; exact ti5 h
  by_cases h9 : t = 9
  · subst h9; exact ti9 h
  by_cases h23 : t = 23
  · subst h23; exact ti23 h
  by_cases h25 : t = 25
  · subst h25; exact ti25 h
  by_cases h28 : t = 28
  · subst h28; exact ti28 h
  by_cases h35 : t = 35
  · subst h35; exact ti35 h
  by_cases h38 : t = 38
  · subst h38; exact ti38 h
  by_cases h42 : t = 42
  · subst h42; exact ti42 h
  by_cases h44 : t = 44
  · subst h44; exact ti44 h
  by_cases h49 : t = 49
  · subst h49; exact ti49 h
  have : ti t = none := by
    unfold ti
    split <;> first | rfl | contradiction
  rw [show T.ti t = ti t from rfl, this] at h
  cases h

theorem stringslite_IndexByte.call (k : Nat) (hC : ∀ j, k = j + 1 → CallOk Tryd.prog T base w0 (env (α := α) j)) : FnOk Tryd.prog T base w0 (env (α := α) k) 19 := by
  intro X ι h w args xs κ out hX0 R hv e
  have e : env_19 k args κ h = some out := e
  unfold env_19 at e
  match args, hv, e with
  | [a0, a1], hv, e =>
    obtain ⟨_, rfl, e1⟩ := asStr_inv e
    obtain ⟨_, rfl, e2⟩ := asI_inv e1
    cases k with
    | zero => cases e2
    | succ k =>
      exact func_ok wide_ok hX0 tab_ok (hC k rfl) Tryd.func19 (by kernel_rfl : Tryd.f19.body = some stringslite_IndexByte.c.code) (by decide) (by kernel_rfl : Tryd.f19.results.toList = stringslite_IndexByte.res) (by kernel_rfl : icOk T Tryd.f19.ntmps stringslite_IndexByte.c = true) R (fun i h => absurd h (hX0 i)) hv (Nat.le_of_ble_eq_true rfl) ((congrFun (stringslite_IndexByte.ok k _ _ κ) h).trans e2)
theorem strings_IndexByte.call (k : Nat) (hC : ∀ j, k = j + 1 → CallOk Tryd.prog T base w0 (env (α := α) j)) : FnOk Tryd.prog T base w0 (env (α := α) k) 15 := by
  intro X ι h w args xs κ out hX0 R hv e
  have e : env_15 k args κ h = some out := e
  unfold env_15 at e
  match args, hv, e with
  | [a0, a1], hv, e =>
    obtain ⟨_, rfl, e1⟩ := asStr_inv e
    obtain ⟨_, rfl, e2⟩ := asI_inv e1
    cases k with
    | zero => cases e2
    | succ k =>
      exact func_ok wide_ok hX0 tab_ok (hC k rfl) Tryd.func15 (by kernel_rfl : Tryd.f15.body = some strings_IndexByte.c.code) (by decide) (by kernel_rfl : Tryd.f15.results.toList = strings_IndexByte.res) (by kernel_rfl : icOk T Tryd.f15.ntmps strings_IndexByte.c = true) R (fun i h => absurd h (hX0 i)) hv (Nat.le_of_ble_eq_true rfl) ((congrFun (strings_IndexByte.ok k _ _ κ) h).trans e2)
theorem scan_kind.call (k : Nat) (hC : ∀ j, k = j + 1 → CallOk Tryd.prog T base w0 (env (α := α) j)) : FnOk Tryd.prog T base w0 (env (α := α) k) 20 := by
  intro X ι h w args xs κ out hX0 R hv e
  have e : env_20 k args κ h = some out := e
  unfold env_20 at e
  match args, hv, e with
  | [a0], hv, e =>
    obtain ⟨_, rfl, e1⟩ := asI_inv e
    cases k with
    | zero => cases e1
    | succ k =>
      exact func_ok wide_ok hX0 tab_ok (hC k rfl) Tryd.func20 (by kernel_rfl : Tryd.f20.body = some scan_kind.c.code) (by decide) (by kernel_rfl : Tryd.f20.results.toList = scan_kind.res) (by kernel_rfl : icOk T Tryd.f20.ntmps scan_kind.c = true) R (fun i h => absurd h (hX0 i)) hv (Nat.le_of_ble_eq_true rfl) ((congrFun (scan_kind.ok k _ κ) h).trans e1)
theorem scan_long.call (k : Nat) (hC : ∀ j, k = j + 1 → CallOk Tryd.prog T base w0 (env (α := α) j)) : FnOk Tryd.prog T base w0 (env (α := α) k) 21 := by
  intro X ι h w args xs κ out hX0 R hv e
  have e : env_21 k args κ h = some out := e
  unfold env_21 at e
  match args, hv, e with
  | [a0, a1], hv, e =>
    obtain ⟨_, rfl, e1⟩ := asI_inv e
    obtain ⟨_, rfl, e2⟩ := asStr_inv e1
    cases k with
    | zero => cases e2
    | succ k =>
      exact func_ok wide_ok hX0 tab_ok (hC k rfl) Tryd.func21 (by kernel_rfl : Tryd.f21.body = some scan_long.c.code) (by decide) (by kernel_rfl : Tryd.f21.results.toList = scan_long.res) (by kernel_rfl : icOk T Tryd.f21.ntmps scan_long.c = true) R (fun i h => absurd h (hX0 i)) hv (Nat.le_of_ble_eq_true rfl) ((congrFun (scan_long.ok k _ _ κ) h).trans e2)
theorem scan_value.call (k : Nat) (hC : ∀ j, k = j + 1 → CallOk Tryd.prog T base w0 (env (α := α) j)) : FnOk Tryd.prog T base w0 (env (α := α) k) 22 := by
  intro X ι h w args xs κ out hX0 R hv e
  have e : env_22 k args κ h = some out := e
  unfold env_22 at e
  match args, hv, e with
  | [a0], hv, e =>
    obtain ⟨_, rfl, e1⟩ := asStr_inv e
    cases k with
    | zero => cases e1
    | succ k =>
      exact func_ok wide_ok hX0 tab_ok (hC k rfl) Tryd.func22 (by kernel_rfl : Tryd.f22.body = some scan_value.c.code) (by decide) (by kernel_rfl : Tryd.f22.results.toList = scan_value.res) (by kernel_rfl : icOk T Tryd.f22.ntmps scan_value.c = true) R (fun i h => absurd h (hX0 i)) hv (Nat.le_of_ble_eq_true rfl) ((congrFun (scan_value.ok k _ κ) h).trans e1)
theorem scan_token.call (k : Nat) (hC : ∀ j, k = j + 1 → CallOk Tryd.prog T base w0 (env (α := α) j)) : FnOk Tryd.prog T base w0 (env (α := α) k) 16 := by
  intro X ι h w args xs κ out hX0 R hv e
  have e : env_16 k args κ h = some out := e
  unfold env_16 at e
  match args, hv, e with
  | [a0, a1], hv, e =>
    obtain ⟨_, rfl, e1⟩ := asStr_inv e
    obtain ⟨_, rfl, e2⟩ := asI_inv e1
    cases k with
    | zero => cases e2
    | succ k =>
      exact func_ok wide_ok hX0 tab_ok (hC k rfl) Tryd.func16 (by kernel_rfl : Tryd.f16.body = some scan_token.c.code) (by decide) (by kernel_rfl : Tryd.f16.results.toList = scan_token.res) (by kernel_rfl : icOk T Tryd.f16.ntmps scan_token.c = true) R (fun i h => absurd h (hX0 i)) hv (Nat.le_of_ble_eq_true rfl) ((congrFun (scan_token.ok k _ _ κ) h).trans e2)
theorem scan_All.call (k : Nat) (hC : ∀ j, k = j + 1 → CallOk Tryd.prog T base w0 (env (α := α) j)) : FnOk Tryd.prog T base w0 (env (α := α) k) 11 := by
  intro X ι h w args xs κ out hX0 R hv e
  have e : env_11 k args κ h = some out := e
  unfold env_11 at e
  match args, hv, e with
  | [a0], hv, e =>
    obtain ⟨_, rfl, e1⟩ := asStr_inv e
    cases k with
    | zero => cases e1
    | succ k =>
      exact func_ok wide_ok hX0 tab_ok (hC k rfl) Tryd.func11 (by kernel_rfl : Tryd.f11.body = some scan_All.c.code) (by decide) (by kernel_rfl : Tryd.f11.results.toList = scan_All.res) (by kernel_rfl : icOk T Tryd.f11.ntmps scan_All.c = true) R (fun i h => absurd h (hX0 i)) hv (Nat.le_of_ble_eq_true rfl) ((congrFun (scan_All.ok k _ κ) h).trans e1)
theorem bailifflaw02_fault.call (k : Nat) (hC : ∀ j, k = j + 1 → CallOk Tryd.prog T base w0 (env (α := α) j)) : FnOk Tryd.prog T base w0 (env (α := α) k) 13 := by
  intro X ι h w args xs κ out hX0 R hv e
  have e : env_13 k args κ h = some out := e
  unfold env_13 at e
  match args, hv, e with
  | [a0], hv, e =>
    cases k with
    | zero => cases e
    | succ k =>
      exact func_ok wide_ok hX0 tab_ok (hC k rfl) Tryd.func13 (by kernel_rfl : Tryd.f13.body = some bailifflaw02_fault.c.code) (by decide) (by kernel_rfl : Tryd.f13.results.toList = bailifflaw02_fault.res) (by kernel_rfl : icOk T Tryd.f13.ntmps bailifflaw02_fault.c = true) R (fun i h => absurd h (hX0 i)) hv (Nat.le_of_ble_eq_true rfl) ((congrFun (bailifflaw02_fault.ok k _ κ) h).trans e)
theorem bailifflaw02_shown.call (k : Nat) (hC : ∀ j, k = j + 1 → CallOk Tryd.prog T base w0 (env (α := α) j)) : FnOk Tryd.prog T base w0 (env (α := α) k) 10 := by
  intro X ι h w args xs κ out hX0 R hv e
  have e : env_10 k args κ h = some out := e
  unfold env_10 at e
  match args, hv, e with
  | [], hv, e =>
    cases k with
    | zero => cases e
    | succ k =>
      exact func_ok wide_ok hX0 tab_ok (hC k rfl) Tryd.func10 (by kernel_rfl : Tryd.f10.body = some bailifflaw02_shown.c.code) (by decide) (by kernel_rfl : Tryd.f10.results.toList = bailifflaw02_shown.res) (by kernel_rfl : icOk T Tryd.f10.ntmps bailifflaw02_shown.c = true) R (fun i h => absurd h (hX0 i)) hv (Nat.le_of_ble_eq_true rfl) ((congrFun (bailifflaw02_shown.ok k κ) h).trans e)
theorem bailiffref02_small.call (k : Nat) (hC : ∀ j, k = j + 1 → CallOk Tryd.prog T base w0 (env (α := α) j)) : FnOk Tryd.prog T base w0 (env (α := α) k) 23 := by
  intro X ι h w args xs κ out hX0 R hv e
  have e : env_23 k args κ h = some out := e
  unfold env_23 at e
  match args, hv, e with
  | [a0], hv, e =>
    obtain ⟨_, rfl, e1⟩ := asI_inv e
    cases k with
    | zero => cases e1
    | succ k =>
      exact func_ok wide_ok hX0 tab_ok (hC k rfl) Tryd.func23 (by kernel_rfl : Tryd.f23.body = some bailiffref02_small.c.code) (by decide) (by kernel_rfl : Tryd.f23.results.toList = bailiffref02_small.res) (by kernel_rfl : icOk T Tryd.f23.ntmps bailiffref02_small.c = true) R (fun i h => absurd h (hX0 i)) hv (Nat.le_of_ble_eq_true rfl) ((congrFun (bailiffref02_small.ok k _ κ) h).trans e1)
theorem bailiffref02_capital.call (k : Nat) (hC : ∀ j, k = j + 1 → CallOk Tryd.prog T base w0 (env (α := α) j)) : FnOk Tryd.prog T base w0 (env (α := α) k) 24 := by
  intro X ι h w args xs κ out hX0 R hv e
  have e : env_24 k args κ h = some out := e
  unfold env_24 at e
  match args, hv, e with
  | [a0], hv, e =>
    obtain ⟨_, rfl, e1⟩ := asI_inv e
    cases k with
    | zero => cases e1
    | succ k =>
      exact func_ok wide_ok hX0 tab_ok (hC k rfl) Tryd.func24 (by kernel_rfl : Tryd.f24.body = some bailiffref02_capital.c.code) (by decide) (by kernel_rfl : Tryd.f24.results.toList = bailiffref02_capital.res) (by kernel_rfl : icOk T Tryd.f24.ntmps bailiffref02_capital.c = true) R (fun i h => absurd h (hX0 i)) hv (Nat.le_of_ble_eq_true rfl) ((congrFun (bailiffref02_capital.ok k _ κ) h).trans e1)
theorem bailiffref02_digit.call (k : Nat) (hC : ∀ j, k = j + 1 → CallOk Tryd.prog T base w0 (env (α := α) j)) : FnOk Tryd.prog T base w0 (env (α := α) k) 25 := by
  intro X ι h w args xs κ out hX0 R hv e
  have e : env_25 k args κ h = some out := e
  unfold env_25 at e
  match args, hv, e with
  | [a0], hv, e =>
    obtain ⟨_, rfl, e1⟩ := asI_inv e
    cases k with
    | zero => cases e1
    | succ k =>
      exact func_ok wide_ok hX0 tab_ok (hC k rfl) Tryd.func25 (by kernel_rfl : Tryd.f25.body = some bailiffref02_digit.c.code) (by decide) (by kernel_rfl : Tryd.f25.results.toList = bailiffref02_digit.res) (by kernel_rfl : icOk T Tryd.f25.ntmps bailiffref02_digit.c = true) R (fun i h => absurd h (hX0 i)) hv (Nat.le_of_ble_eq_true rfl) ((congrFun (bailiffref02_digit.ok k _ κ) h).trans e1)
theorem bailiffref02_inner.call (k : Nat) (hC : ∀ j, k = j + 1 → CallOk Tryd.prog T base w0 (env (α := α) j)) : FnOk Tryd.prog T base w0 (env (α := α) k) 33 := by
  intro X ι h w args xs κ out hX0 R hv e
  have e : env_33 k args κ h = some out := e
  unfold env_33 at e
  match args, hv, e with
  | [a0], hv, e =>
    obtain ⟨_, rfl, e1⟩ := asI_inv e
    cases k with
    | zero => cases e1
    | succ k =>
      exact func_ok wide_ok hX0 tab_ok (hC k rfl) Tryd.func33 (by kernel_rfl : Tryd.f33.body = some bailiffref02_inner.c.code) (by decide) (by kernel_rfl : Tryd.f33.results.toList = bailiffref02_inner.res) (by kernel_rfl : icOk T Tryd.f33.ntmps bailiffref02_inner.c = true) R (fun i h => absurd h (hX0 i)) hv (Nat.le_of_ble_eq_true rfl) ((congrFun (bailiffref02_inner.ok k _ κ) h).trans e1)
theorem bailiffref02_name.call (k : Nat) (hC : ∀ j, k = j + 1 → CallOk Tryd.prog T base w0 (env (α := α) j)) : FnOk Tryd.prog T base w0 (env (α := α) k) 26 := by
  intro X ι h w args xs κ out hX0 R hv e
  have e : env_26 k args κ h = some out := e
  unfold env_26 at e
  match args, hv, e with
  | [a0, a1], hv, e =>
    obtain ⟨_, rfl, e1⟩ := asStr_inv e
    obtain ⟨_, rfl, e2⟩ := asI_inv e1
    cases k with
    | zero => cases e2
    | succ k =>
      exact func_ok wide_ok hX0 tab_ok (hC k rfl) Tryd.func26 (by kernel_rfl : Tryd.f26.body = some bailiffref02_name.c.code) (by decide) (by kernel_rfl : Tryd.f26.results.toList = bailiffref02_name.res) (by kernel_rfl : icOk T Tryd.f26.ntmps bailiffref02_name.c = true) R (fun i h => absurd h (hX0 i)) hv (Nat.le_of_ble_eq_true rfl) ((congrFun (bailiffref02_name.ok k _ _ κ) h).trans e2)
theorem bailiffref02_number.call (k : Nat) (hC : ∀ j, k = j + 1 → CallOk Tryd.prog T base w0 (env (α := α) j)) : FnOk Tryd.prog T base w0 (env (α := α) k) 27 := by
  intro X ι h w args xs κ out hX0 R hv e
  have e : env_27 k args κ h = some out := e
  unfold env_27 at e
  match args, hv, e with
  | [a0, a1], hv, e =>
    obtain ⟨_, rfl, e1⟩ := asStr_inv e
    obtain ⟨_, rfl, e2⟩ := asI_inv e1
    cases k with
    | zero => cases e2
    | succ k =>
      exact func_ok wide_ok hX0 tab_ok (hC k rfl) Tryd.func27 (by kernel_rfl : Tryd.f27.body = some bailiffref02_number.c.code) (by decide) (by kernel_rfl : Tryd.f27.results.toList = bailiffref02_number.res) (by kernel_rfl : icOk T Tryd.f27.ntmps bailiffref02_number.c = true) R (fun i h => absurd h (hX0 i)) hv (Nat.le_of_ble_eq_true rfl) ((congrFun (bailiffref02_number.ok k _ _ κ) h).trans e2)
theorem bailiffref02_one.call (k : Nat) (hC : ∀ j, k = j + 1 → CallOk Tryd.prog T base w0 (env (α := α) j)) : FnOk Tryd.prog T base w0 (env (α := α) k) 17 := by
  intro X ι h w args xs κ out hX0 R hv e
  have e : env_17 k args κ h = some out := e
  unfold env_17 at e
  match args, hv, e with
  | [a0, a1], hv, e =>
    obtain ⟨_, rfl, e1⟩ := asStr_inv e
    obtain ⟨_, rfl, e2⟩ := asI_inv e1
    cases k with
    | zero => cases e2
    | succ k =>
      exact func_ok wide_ok hX0 tab_ok (hC k rfl) Tryd.func17 (by kernel_rfl : Tryd.f17.body = some bailiffref02_one.c.code) (by decide) (by kernel_rfl : Tryd.f17.results.toList = bailiffref02_one.res) (by kernel_rfl : icOk T Tryd.f17.ntmps bailiffref02_one.c = true) R (fun i h => absurd h (hX0 i)) hv (Nat.le_of_ble_eq_true rfl) ((congrFun (bailiffref02_one.ok k _ _ κ) h).trans e2)
theorem bailiffref02_All.call (k : Nat) (hC : ∀ j, k = j + 1 → CallOk Tryd.prog T base w0 (env (α := α) j)) : FnOk Tryd.prog T base w0 (env (α := α) k) 12 := by
  intro X ι h w args xs κ out hX0 R hv e
  have e : env_12 k args κ h = some out := e
  unfold env_12 at e
  match args, hv, e with
  | [a0], hv, e =>
    obtain ⟨_, rfl, e1⟩ := asStr_inv e
    cases k with
    | zero => cases e1
    | succ k =>
      exact func_ok wide_ok hX0 tab_ok (hC k rfl) Tryd.func12 (by kernel_rfl : Tryd.f12.body = some bailiffref02_All.c.code) (by decide) (by kernel_rfl : Tryd.f12.results.toList = bailiffref02_All.res) (by kernel_rfl : icOk T Tryd.f12.ntmps bailiffref02_All.c = true) R (fun i h => absurd h (hX0 i)) hv (Nat.le_of_ble_eq_true rfl) ((congrFun (bailiffref02_All.ok k _ κ) h).trans e1)
theorem bailifflaw02_same.call (k : Nat) (hC : ∀ j, k = j + 1 → CallOk Tryd.prog T base w0 (env (α := α) j)) : FnOk Tryd.prog T base w0 (env (α := α) k) 14 := by
  intro X ι h w args xs κ out hX0 R hv e
  have e : env_14 k args κ h = some out := e
  unfold env_14 at e
  match args, hv, e with
  | [a0, a1, a2], hv, e =>
    obtain ⟨_, rfl, e1⟩ := asS_inv e
    obtain ⟨_, rfl, e2⟩ := asS_inv e1
    obtain ⟨_, rfl, e3⟩ := asI_inv e2
    cases k with
    | zero => cases e3
    | succ k =>
      exact func_ok wide_ok hX0 tab_ok (hC k rfl) Tryd.func14 (by kernel_rfl : Tryd.f14.body = some bailifflaw02_same.c.code) (by decide) (by kernel_rfl : Tryd.f14.results.toList = bailifflaw02_same.res) (by kernel_rfl : icOk T Tryd.f14.ntmps bailifflaw02_same.c = true) R (fun i h => absurd h (hX0 i)) hv (Nat.le_of_ble_eq_true rfl) ((congrFun (bailifflaw02_same.ok k _ _ _ κ) h).trans e3)
theorem bailifflaw02_ScanAll.call (k : Nat) (hC : ∀ j, k = j + 1 → CallOk Tryd.prog T base w0 (env (α := α) j)) : FnOk Tryd.prog T base w0 (env (α := α) k) 3 := by
  intro X ι h w args xs κ out hX0 R hv e
  have e : env_3 k args κ h = some out := e
  unfold env_3 at e
  match args, hv, e with
  | [a0], hv, e =>
    obtain ⟨_, rfl, e1⟩ := asStr_inv e
    cases k with
    | zero => cases e1
    | succ k =>
      exact func_ok wide_ok hX0 tab_ok (hC k rfl) Tryd.func3 (by kernel_rfl : Tryd.f3.body = some bailifflaw02_ScanAll.c.code) (by decide) (by kernel_rfl : Tryd.f3.results.toList = bailifflaw02_ScanAll.res) (by kernel_rfl : icOk T Tryd.f3.ntmps bailifflaw02_ScanAll.c = true) R (fun i h => absurd h (hX0 i)) hv (Nat.le_of_ble_eq_true rfl) ((congrFun (bailifflaw02_ScanAll.ok k _ κ) h).trans e1)
theorem bailifflaw02_ScanPieces.call (k : Nat) (hC : ∀ j, k = j + 1 → CallOk Tryd.prog T base w0 (env (α := α) j)) : FnOk Tryd.prog T base w0 (env (α := α) k) 4 := by
  intro X ι h w args xs κ out hX0 R hv e
  have e : env_4 k args κ h = some out := e
  unfold env_4 at e
  match args, hv, e with
  | [a0], hv, e =>
    obtain ⟨_, rfl, e1⟩ := asStr_inv e
    cases k with
    | zero => cases e1
    | succ k =>
      exact func_ok wide_ok hX0 tab_ok (hC k rfl) Tryd.func4 (by kernel_rfl : Tryd.f4.body = some bailifflaw02_ScanPieces.c.code) (by decide) (by kernel_rfl : Tryd.f4.results.toList = bailifflaw02_ScanPieces.res) (by kernel_rfl : icOk T Tryd.f4.ntmps bailifflaw02_ScanPieces.c = true) R (fun i h => absurd h (hX0 i)) hv (Nat.le_of_ble_eq_true rfl) ((congrFun (bailifflaw02_ScanPieces.ok k _ κ) h).trans e1)
theorem bailifflaw02_ScanJoins.call (k : Nat) (hC : ∀ j, k = j + 1 → CallOk Tryd.prog T base w0 (env (α := α) j)) : FnOk Tryd.prog T base w0 (env (α := α) k) 5 := by
  intro X ι h w args xs κ out hX0 R hv e
  have e : env_5 k args κ h = some out := e
  unfold env_5 at e
  match args, hv, e with
  | [a0, a1], hv, e =>
    obtain ⟨_, rfl, e1⟩ := asStr_inv e
    obtain ⟨_, rfl, e2⟩ := asStr_inv e1
    cases k with
    | zero => cases e2
    | succ k =>
      exact func_ok wide_ok hX0 tab_ok (hC k rfl) Tryd.func5 (by kernel_rfl : Tryd.f5.body = some bailifflaw02_ScanJoins.c.code) (by decide) (by kernel_rfl : Tryd.f5.results.toList = bailifflaw02_ScanJoins.res) (by kernel_rfl : icOk T Tryd.f5.ntmps bailifflaw02_ScanJoins.c = true) R (fun i h => absurd h (hX0 i)) hv (Nat.le_of_ble_eq_true rfl) ((congrFun (bailifflaw02_ScanJoins.ok k _ _ κ) h).trans e2)
theorem bailifflaw02_ScanNames.call (k : Nat) (hC : ∀ j, k = j + 1 → CallOk Tryd.prog T base w0 (env (α := α) j)) : FnOk Tryd.prog T base w0 (env (α := α) k) 6 := by
  intro X ι h w args xs κ out hX0 R hv e
  have e : env_6 k args κ h = some out := e
  unfold env_6 at e
  match args, hv, e with
  | [a0, a1, a2], hv, e =>
    obtain ⟨_, rfl, e1⟩ := asI_inv e
    obtain ⟨_, rfl, e2⟩ := asStr_inv e1
    obtain ⟨_, rfl, e3⟩ := asI_inv e2
    cases k with
    | zero => cases e3
    | succ k =>
      exact func_ok wide_ok hX0 tab_ok (hC k rfl) Tryd.func6 (by kernel_rfl : Tryd.f6.body = some bailifflaw02_ScanNames.c.code) (by decide) (by kernel_rfl : Tryd.f6.results.toList = bailifflaw02_ScanNames.res) (by kernel_rfl : icOk T Tryd.f6.ntmps bailifflaw02_ScanNames.c = true) R (fun i h => absurd h (hX0 i)) hv (Nat.le_of_ble_eq_true rfl) ((congrFun (bailifflaw02_ScanNames.ok k _ _ _ κ) h).trans e3)
theorem bailifflaw02_ScanSigns.call (k : Nat) (hC : ∀ j, k = j + 1 → CallOk Tryd.prog T base w0 (env (α := α) j)) : FnOk Tryd.prog T base w0 (env (α := α) k) 7 := by
  intro X ι h w args xs κ out hX0 R hv e
  have e : env_7 k args κ h = some out := e
  unfold env_7 at e
  match args, hv, e with
  | [a0], hv, e =>
    obtain ⟨_, rfl, e1⟩ := asI_inv e
    cases k with
    | zero => cases e1
    | succ k =>
      exact func_ok wide_ok hX0 tab_ok (hC k rfl) Tryd.func7 (by kernel_rfl : Tryd.f7.body = some bailifflaw02_ScanSigns.c.code) (by decide) (by kernel_rfl : Tryd.f7.results.toList = bailifflaw02_ScanSigns.res) (by kernel_rfl : icOk T Tryd.f7.ntmps bailifflaw02_ScanSigns.c = true) R (fun i h => absurd h (hX0 i)) hv (Nat.le_of_ble_eq_true rfl) ((congrFun (bailifflaw02_ScanSigns.ok k _ κ) h).trans e1)
theorem bailifflaw02_ScanUpTo.call (k : Nat) (hC : ∀ j, k = j + 1 → CallOk Tryd.prog T base w0 (env (α := α) j)) : FnOk Tryd.prog T base w0 (env (α := α) k) 8 := by
  intro X ι h w args xs κ out hX0 R hv e
  have e : env_8 k args κ h = some out := e
  unfold env_8 at e
  match args, hv, e with
  | [a0], hv, e =>
    obtain ⟨_, rfl, e1⟩ := asStr_inv e
    cases k with
    | zero => cases e1
    | succ k =>
      exact func_ok wide_ok hX0 tab_ok (hC k rfl) Tryd.func8 (by kernel_rfl : Tryd.f8.body = some bailifflaw02_ScanUpTo.c.code) (by decide) (by kernel_rfl : Tryd.f8.results.toList = bailifflaw02_ScanUpTo.res) (by kernel_rfl : icOk T Tryd.f8.ntmps bailifflaw02_ScanUpTo.c = true) R (fun i h => absurd h (hX0 i)) hv (Nat.le_of_ble_eq_true rfl) ((congrFun (bailifflaw02_ScanUpTo.ok k _ κ) h).trans e1)
theorem bailifflaw02_ScanCuts.call (k : Nat) (hC : ∀ j, k = j + 1 → CallOk Tryd.prog T base w0 (env (α := α) j)) : FnOk Tryd.prog T base w0 (env (α := α) k) 9 := by
  intro X ι h w args xs κ out hX0 R hv e
  have e : env_9 k args κ h = some out := e
  unfold env_9 at e
  match args, hv, e with
  | [a0, a1], hv, e =>
    obtain ⟨_, rfl, e1⟩ := asStr_inv e
    obtain ⟨_, rfl, e2⟩ := asI_inv e1
    cases k with
    | zero => cases e2
    | succ k =>
      exact func_ok wide_ok hX0 tab_ok (hC k rfl) Tryd.func9 (by kernel_rfl : Tryd.f9.body = some bailifflaw02_ScanCuts.c.code) (by decide) (by kernel_rfl : Tryd.f9.results.toList = bailifflaw02_ScanCuts.res) (by kernel_rfl : icOk T Tryd.f9.ntmps bailifflaw02_ScanCuts.c = true) R (fun i h => absurd h (hX0 i)) hv (Nat.le_of_ble_eq_true rfl) ((congrFun (bailifflaw02_ScanCuts.ok k _ _ κ) h).trans e2)
end Go.Ab.S2
