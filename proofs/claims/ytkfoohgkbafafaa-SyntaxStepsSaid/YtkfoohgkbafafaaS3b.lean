import Derived.Test.YtkfoohgkbafafaaAb15
import Derived.Test.YtkfoohgkbafafaaAb19
import Derived.Test.YtkfoohgkbafafaaS3a
namespace Go.Ab.S3
section
variable {α : Type}
open Go.Proofs
set_option linter.unusedVariables false
set_option linter.unusedSimpArgs false
variable {base : Nat} {w0 : World}
theorem wide_ok : Try.prog.follows .mixedOrders = true := by kernel_rfl
theorem ti3 {i : TI} (h : ti 3 = some i) : TIOk Try.prog 3 i := by
  cases h
  exact TIOk.of 123 Try.underlying3 Try.type3 rfl rfl rfl rfl rfl rfl rfl rfl rfl Try.types_size rfl (nofun)
theorem ti5 {i : TI} (h : ti 5 = some i) : TIOk Try.prog 5 i := by
  cases h
  exact TIOk.of 123 Try.underlying5 Try.type5 rfl rfl rfl rfl rfl rfl rfl rfl rfl Try.types_size rfl (nofun)
theorem ti9 {i : TI} (h : ti 9 = some i) : TIOk Try.prog 9 i := by
  cases h
  exact TIOk.of 123 Try.underlying9 Try.type9 rfl rfl rfl rfl rfl rfl rfl rfl rfl Try.types_size rfl (nofun)
theorem ti20 {i : TI} (h : ti 20 = some i) : TIOk Try.prog 20 i := by
  cases h
  exact TIOk.of 123 Try.underlying20 Try.type20 rfl rfl rfl rfl rfl rfl rfl rfl rfl Try.types_size rfl (nofun)
theorem ti22 {i : TI} (h : ti 22 = some i) : TIOk Try.prog 22 i := by
  cases h
  exact TIOk.of 123 Try.underlying22 Try.type22 rfl rfl rfl rfl rfl rfl rfl rfl rfl Try.types_size rfl (nofun)
theorem ti25 {i : TI} (h : ti 25 = some i) : TIOk Try.prog 25 i := by
  cases h
  exact TIOk.of 123 Try.underlying25 Try.type25 rfl rfl rfl rfl rfl rfl rfl rfl rfl Try.types_size rfl (nofun)
theorem ti30 {i : TI} (h : ti 30 = some i) : TIOk Try.prog 30 i := by
  cases h
  exact TIOk.of 123 Try.underlying30 Try.type30 rfl rfl rfl rfl rfl rfl rfl rfl rfl Try.types_size rfl (nofun)
theorem ti33 {i : TI} (h : ti 33 = some i) : TIOk Try.prog 33 i := by
  cases h
  exact TIOk.of 123 Try.underlying33 Try.type33 rfl rfl rfl rfl rfl rfl rfl rfl trivial Try.types_size rfl (fun _ => plain_struct Try.underlying33 Try.stoodInHeld33 Try.eqGuardType33 ⟨by decide, rfl, Try.underlying3, ⟨by decide, rfl, Try.underlying3, ⟨by decide, rfl, Try.underlying3, ⟨by decide, rfl, Try.underlying9, ⟨by decide, rfl, Try.underlying3, trivial⟩⟩⟩⟩⟩)
theorem ti38 {i : TI} (h : ti 38 = some i) : TIOk Try.prog 38 i := by
  cases h
  exact TIOk.of 123 Try.underlying38 Try.type38 rfl rfl rfl rfl rfl rfl rfl rfl rfl Try.types_size rfl (nofun)
theorem ti43 {i : TI} (h : ti 43 = some i) : TIOk Try.prog 43 i := by
  cases h
  exact TIOk.of 123 Try.underlying43 Try.type43 rfl rfl rfl rfl rfl rfl rfl rfl rfl Try.types_size rfl (nofun)
theorem ti61 {i : TI} (h : ti 61 = some i) : TIOk Try.prog 61 i := by
  cases h
  exact TIOk.of 123 Try.underlying61 Try.type61 rfl rfl rfl rfl rfl rfl rfl rfl rfl Try.types_size rfl (nofun)
theorem ti62 {i : TI} (h : ti 62 = some i) : TIOk Try.prog 62 i := by
  cases h
  exact TIOk.of 123 Try.underlying62 Try.type62 rfl rfl rfl rfl rfl rfl rfl rfl rfl Try.types_size rfl (nofun)
theorem ti64 {i : TI} (h : ti 64 = some i) : TIOk Try.prog 64 i := by
  cases h
  exact TIOk.of 123 Try.underlying64 Try.type64 rfl rfl rfl rfl rfl rfl rfl rfl trivial Try.types_size rfl (nofun)
theorem ti68 {i : TI} (h : ti 68 = some i) : TIOk Try.prog 68 i := by
  cases h
  exact TIOk.of 123 Try.underlying68 Try.type68 rfl rfl rfl rfl rfl rfl rfl rfl rfl Try.types_size rfl (nofun)
theorem ti72 {i : TI} (h : ti 72 = some i) : TIOk Try.prog 72 i := by
  cases h
  exact TIOk.of 123 Try.underlying72 Try.type72 rfl rfl rfl rfl rfl rfl rfl rfl trivial Try.types_size rfl (fun _ => plain_struct Try.underlying72 Try.stoodInHeld72 Try.eqGuardType72 ⟨by decide, rfl, Try.underlying3, ⟨by decide, rfl, Try.underlying25, trivial⟩⟩)
theorem ti74 {i : TI} (h : ti 74 = some i) : TIOk Try.prog 74 i := by
  cases h
  exact TIOk.of 123 Try.underlying74 Try.type74 rfl rfl rfl rfl rfl rfl rfl rfl trivial Try.types_size rfl (nofun)
theorem ti75 {i : TI} (h : ti 75 = some i) : TIOk Try.prog 75 i := by
  cases h
  exact TIOk.of 123 Try.underlying75 Try.type75 rfl rfl rfl rfl rfl rfl rfl rfl rfl Try.types_size rfl (nofun)
theorem ti79 {i : TI} (h : ti 79 = some i) : TIOk Try.prog 79 i := by
  cases h
  exact TIOk.of 123 Try.underlying79 Try.type79 rfl rfl rfl rfl rfl rfl rfl rfl trivial Try.types_size rfl (fun _ => plain_struct Try.underlying79 Try.stoodInHeld79 Try.eqGuardType79 ⟨by decide, rfl, Try.underlying3, ⟨by decide, rfl, Try.underlying3, ⟨by decide, rfl, Try.underlying9, ⟨by decide, rfl, Try.underlying3, trivial⟩⟩⟩⟩)
theorem ti82 {i : TI} (h : ti 82 = some i) : TIOk Try.prog 82 i := by
  cases h
  exact TIOk.of 123 Try.underlying82 Try.type82 rfl rfl rfl rfl rfl rfl rfl rfl trivial Try.types_size rfl (nofun)
theorem tab_ok : TabOk Try.prog T := by
  refine ⟨fun t i h => ?_⟩
  by_cases h3 : t = 3
  · subst h3; exact ti3 h
  by_cases h5 : t = 5
  · subst h5; exact ti5 h
  by_cases h9 : t = 9
  · subst h9; exact ti9 h
  by_cases h20 : t = 20
  · subst h20; exact ti20 h
  by_cases h22 : t = 22
  · subst h22; exact ti22 h
  by_cases h25 : t = 25
  · subst h25; exact ti25 h
  by_cases h30 : t = 30
  · subst h30; exact ti30 h
  by_cases h33 : t = 33
  · subst h33; exact ti33 h
  by_cases h38 : t = 38
  · subst h38; exact ti38 h
  by_cases h43 : t = 43
  · subst h43; exact ti43 h
  by_cases h61 : t = 61
  · subst h61; exact ti61 h
  by_cases h62 : t = 62
  · subst h62; exact ti62 h
  by_cases h64 : t = 64
  · subst h64; exact ti64 h
  by_cases h68 : t = 68
  · subst h68; exact ti68 h
  by_cases h72 : t = 72
  · subst h72; exact ti72 h
  by_cases h74 : t = 74
  · subst h74; exact ti74 h
  by_cases h75 : t = 75
  · subst h75; exact ti75 h
  by_cases h79 : t = 79
  · subst h79; exact ti79 h
  by_cases h82 : t = 82
  · subst h82; exact ti82 h
  have : ti t = none := by
    unfold ti
    split <;> first | rfl | contradiction
  rw [show T.ti t = ti t from rfl, this] at h
  cases h
theorem stringslite_IndexByte.call (k : Nat) (hC : ∀ j, k = j + 1 → CallOk Try.prog T base w0 (env (α := α) j)) : FnOk Try.prog T base w0 (env (α := α) k) 70 := by
  intro X ι h w args xs κ out hX0 R hv e
  have e : env_70 k args κ h = some out := e
  unfold env_70 at e
  match args, hv, e with
  | [a0, a1], hv, e =>
    obtain ⟨_, rfl, e1⟩ := asStr_inv e
    obtain ⟨_, rfl, e2⟩ := asI_inv e1
    cases k with
    | zero => cases e2
    | succ k =>
      exact func_ok wide_ok hX0 tab_ok (hC k rfl) Try.func70 (by kernel_rfl : Try.f70.body = some stringslite_IndexByte.c.code) (by decide) (by kernel_rfl : Try.f70.results.toList = stringslite_IndexByte.res) (by kernel_rfl : icOk T Try.f70.ntmps stringslite_IndexByte.c = true) R (fun i h => absurd h (hX0 i)) hv (Nat.le_of_ble_eq_true rfl) ((congrFun (stringslite_IndexByte.ok k _ _ κ) h).trans e2)
theorem strings_IndexByte.call (k : Nat) (hC : ∀ j, k = j + 1 → CallOk Try.prog T base w0 (env (α := α) j)) : FnOk Try.prog T base w0 (env (α := α) k) 59 := by
  intro X ι h w args xs κ out hX0 R hv e
  have e : env_59 k args κ h = some out := e
  unfold env_59 at e
  match args, hv, e with
  | [a0, a1], hv, e =>
    obtain ⟨_, rfl, e1⟩ := asStr_inv e
    obtain ⟨_, rfl, e2⟩ := asI_inv e1
    cases k with
    | zero => cases e2
    | succ k =>
      exact func_ok wide_ok hX0 tab_ok (hC k rfl) Try.func59 (by kernel_rfl : Try.f59.body = some strings_IndexByte.c.code) (by decide) (by kernel_rfl : Try.f59.results.toList = strings_IndexByte.res) (by kernel_rfl : icOk T Try.f59.ntmps strings_IndexByte.c = true) R (fun i h => absurd h (hX0 i)) hv (Nat.le_of_ble_eq_true rfl) ((congrFun (strings_IndexByte.ok k _ _ κ) h).trans e2)
theorem scan_kind.call (k : Nat) (hC : ∀ j, k = j + 1 → CallOk Try.prog T base w0 (env (α := α) j)) : FnOk Try.prog T base w0 (env (α := α) k) 71 := by
  intro X ι h w args xs κ out hX0 R hv e
  have e : env_71 k args κ h = some out := e
  unfold env_71 at e
  match args, hv, e with
  | [a0], hv, e =>
    obtain ⟨_, rfl, e1⟩ := asI_inv e
    cases k with
    | zero => cases e1
    | succ k =>
      exact func_ok wide_ok hX0 tab_ok (hC k rfl) Try.func71 (by kernel_rfl : Try.f71.body = some scan_kind.c.code) (by decide) (by kernel_rfl : Try.f71.results.toList = scan_kind.res) (by kernel_rfl : icOk T Try.f71.ntmps scan_kind.c = true) R (fun i h => absurd h (hX0 i)) hv (Nat.le_of_ble_eq_true rfl) ((congrFun (scan_kind.ok k _ κ) h).trans e1)
theorem scan_long.call (k : Nat) (hC : ∀ j, k = j + 1 → CallOk Try.prog T base w0 (env (α := α) j)) : FnOk Try.prog T base w0 (env (α := α) k) 72 := by
  intro X ι h w args xs κ out hX0 R hv e
  have e : env_72 k args κ h = some out := e
  unfold env_72 at e
  match args, hv, e with
  | [a0, a1], hv, e =>
    obtain ⟨_, rfl, e1⟩ := asI_inv e
    obtain ⟨_, rfl, e2⟩ := asStr_inv e1
    cases k with
    | zero => cases e2
    | succ k =>
      exact func_ok wide_ok hX0 tab_ok (hC k rfl) Try.func72 (by kernel_rfl : Try.f72.body = some scan_long.c.code) (by decide) (by kernel_rfl : Try.f72.results.toList = scan_long.res) (by kernel_rfl : icOk T Try.f72.ntmps scan_long.c = true) R (fun i h => absurd h (hX0 i)) hv (Nat.le_of_ble_eq_true rfl) ((congrFun (scan_long.ok k _ _ κ) h).trans e2)
theorem scan_value.call (k : Nat) (hC : ∀ j, k = j + 1 → CallOk Try.prog T base w0 (env (α := α) j)) : FnOk Try.prog T base w0 (env (α := α) k) 73 := by
  intro X ι h w args xs κ out hX0 R hv e
  have e : env_73 k args κ h = some out := e
  unfold env_73 at e
  match args, hv, e with
  | [a0], hv, e =>
    obtain ⟨_, rfl, e1⟩ := asStr_inv e
    cases k with
    | zero => cases e1
    | succ k =>
      exact func_ok wide_ok hX0 tab_ok (hC k rfl) Try.func73 (by kernel_rfl : Try.f73.body = some scan_value.c.code) (by decide) (by kernel_rfl : Try.f73.results.toList = scan_value.res) (by kernel_rfl : icOk T Try.f73.ntmps scan_value.c = true) R (fun i h => absurd h (hX0 i)) hv (Nat.le_of_ble_eq_true rfl) ((congrFun (scan_value.ok k _ κ) h).trans e1)
theorem scan_token.call (k : Nat) (hC : ∀ j, k = j + 1 → CallOk Try.prog T base w0 (env (α := α) j)) : FnOk Try.prog T base w0 (env (α := α) k) 60 := by
  intro X ι h w args xs κ out hX0 R hv e
  have e : env_60 k args κ h = some out := e
  unfold env_60 at e
  match args, hv, e with
  | [a0, a1], hv, e =>
    obtain ⟨_, rfl, e1⟩ := asStr_inv e
    obtain ⟨_, rfl, e2⟩ := asI_inv e1
    cases k with
    | zero => cases e2
    | succ k =>
      exact func_ok wide_ok hX0 tab_ok (hC k rfl) Try.func60 (by kernel_rfl : Try.f60.body = some scan_token.c.code) (by decide) (by kernel_rfl : Try.f60.results.toList = scan_token.res) (by kernel_rfl : icOk T Try.f60.ntmps scan_token.c = true) R (fun i h => absurd h (hX0 i)) hv (Nat.le_of_ble_eq_true rfl) ((congrFun (scan_token.ok k _ _ κ) h).trans e2)
theorem scan_All.call (k : Nat) (hC : ∀ j, k = j + 1 → CallOk Try.prog T base w0 (env (α := α) j)) : FnOk Try.prog T base w0 (env (α := α) k) 44 := by
  intro X ι h w args xs κ out hX0 R hv e
  have e : env_44 k args κ h = some out := e
  unfold env_44 at e
  match args, hv, e with
  | [a0], hv, e =>
    obtain ⟨_, rfl, e1⟩ := asStr_inv e
    cases k with
    | zero => cases e1
    | succ k =>
      exact func_ok wide_ok hX0 tab_ok (hC k rfl) Try.func44 (by kernel_rfl : Try.f44.body = some scan_All.c.code) (by decide) (by kernel_rfl : Try.f44.results.toList = scan_All.res) (by kernel_rfl : icOk T Try.f44.ntmps scan_All.c = true) R (fun i h => absurd h (hX0 i)) hv (Nat.le_of_ble_eq_true rfl) ((congrFun (scan_All.ok k _ κ) h).trans e1)
theorem syntax_Parse_c2.call (k : Nat) (hC : ∀ j, k = j + 1 → CallOk Try.prog T base w0 (env (α := α) j)) : FnOk Try.prog T base w0 (env (α := α) k) 47 := by
  intro X ι h w args xs κ out hX0 R hv e
  have e : env_47 k args κ h = some out := e
  unfold env_47 at e
  match args, hv, e with
  | [a0], hv, e =>
    obtain ⟨_, rfl, e1⟩ := asAgg_inv e
    obtain ⟨_, _, rfl, e2⟩ := uncons_inv e1
    obtain ⟨_, rfl, e3⟩ := asI_inv e2
    obtain ⟨_, _, rfl, e4⟩ := uncons_inv e3
    obtain ⟨_, rfl, e5⟩ := asI_inv e4
    obtain ⟨_, _, rfl, e6⟩ := uncons_inv e5
    obtain ⟨_, rfl, e7⟩ := asStr_inv e6
    obtain ⟨_, _, rfl, e8⟩ := uncons_inv e7
    obtain ⟨_, rfl, e9⟩ := asI_inv e8
    obtain ⟨rfl, e10⟩ := unnil_inv e9
    cases k with
    | zero => cases e10
    | succ k =>
      exact func_ok wide_ok hX0 tab_ok (hC k rfl) Try.func47 (by kernel_rfl : Try.f47.body = some syntax_Parse_c2.c.code) (by decide) (by kernel_rfl : Try.f47.results.toList = syntax_Parse_c2.res) (by kernel_rfl : icOk T Try.f47.ntmps syntax_Parse_c2.c = true) R (fun i h => absurd h (hX0 i)) hv (Nat.le_of_ble_eq_true rfl) ((congrFun (syntax_Parse_c2.ok k _ _ _ _ κ) h).trans e10)
theorem slIT.call (k : Nat) (hC : ∀ j, k = j + 1 → CallOk Try.prog T base w0 (env (α := α) j)) : FnOk Try.prog T base w0 (env (α := α) k) 61 := by
  intro X ι h w args xs κ out hX0 R hv e
  have e : env_61 k args κ h = some out := e
  unfold env_61 at e
  match args, hv, e with
  | [a0, a1], hv, e =>
    obtain ⟨_, rfl, e1⟩ := asS_inv e
    obtain ⟨_, _, _, rfl, e2⟩ := asFunc_inv e1
    obtain ⟨hbe3, e3⟩ := need_inv e2
    obtain rfl := Nat.eq_of_beq_eq_true hbe3
    obtain ⟨rfl, e4⟩ := unnil_inv e3
    obtain ⟨rfl, e5⟩ := unnil_inv e4
    cases k with
    | zero => cases e5
    | succ k =>
      exact func_ok wide_ok hX0 tab_ok (hC k rfl) Try.func61 (by kernel_rfl : Try.f61.body = some slIT.c.code) (by decide) (by kernel_rfl : Try.f61.results.toList = slIT.res) (by kernel_rfl : icOk T Try.f61.ntmps slIT.c = true) R (fun i h => absurd h (hX0 i)) hv (Nat.le_of_ble_eq_true rfl) ((congrFun (slIT.ok k _ κ) h).trans e5)
theorem slDT.call (k : Nat) (hC : ∀ j, k = j + 1 → CallOk Try.prog T base w0 (env (α := α) j)) : FnOk Try.prog T base w0 (env (α := α) k) 46 := by
  intro X ι h w args xs κ out hX0 R hv e
  have e : env_46 k args κ h = some out := e
  unfold env_46 at e
  match args, hv, e with
  | [a0, a1], hv, e =>
    obtain ⟨_, rfl, e1⟩ := asS_inv e
    obtain ⟨_, _, _, rfl, e2⟩ := asFunc_inv e1
    obtain ⟨hbe3, e3⟩ := need_inv e2
    obtain rfl := Nat.eq_of_beq_eq_true hbe3
    obtain ⟨rfl, e4⟩ := unnil_inv e3
    obtain ⟨rfl, e5⟩ := unnil_inv e4
    cases k with
    | zero => cases e5
    | succ k =>
      exact func_ok wide_ok hX0 tab_ok (hC k rfl) Try.func46 (by kernel_rfl : Try.f46.body = some slDT.c.code) (by decide) (by kernel_rfl : Try.f46.results.toList = slDT.res) (by kernel_rfl : icOk T Try.f46.ntmps slDT.c = true) R (fun i h => absurd h (hX0 i)) hv (Nat.le_of_ble_eq_true rfl) ((congrFun (slDT.ok k _ κ) h).trans e5)
theorem spis.call (k : Nat) (hC : ∀ j, k = j + 1 → CallOk Try.prog T base w0 (env (α := α) j)) : FnOk Try.prog T base w0 (env (α := α) k) 74 := by
  intro X ι h w args xs κ out hX0 R hv e
  have e : env_74 k args κ h = some out := e
  unfold env_74 at e
  match args, hv, e with
  | [a0, a1], hv, e =>
    obtain ⟨_, rfl, e1⟩ := asP_inv e
    obtain ⟨_, rfl, e2⟩ := asSome_inv e1
    obtain ⟨_, rfl, e3⟩ := asStr_inv e2
    cases k with
    | zero => cases e3
    | succ k =>
      exact func_ok wide_ok hX0 tab_ok (hC k rfl) Try.func74 (by kernel_rfl : Try.f74.body = some spis.c.code) (by decide) (by kernel_rfl : Try.f74.results.toList = spis.res) (by kernel_rfl : icOk T Try.f74.ntmps spis.c = true) R (fun i h => absurd h (hX0 i)) hv (Nat.le_of_ble_eq_true rfl) ((congrFun (spis.ok k _ _ κ) h).trans e3)
theorem spnext.call (k : Nat) (hC : ∀ j, k = j + 1 → CallOk Try.prog T base w0 (env (α := α) j)) : FnOk Try.prog T base w0 (env (α := α) k) 80 := by
  intro X ι h w args xs κ out hX0 R hv e
  have e : env_80 k args κ h = some out := e
  unfold env_80 at e
  match args, hv, e with
  | [a0], hv, e =>
    obtain ⟨_, rfl, e1⟩ := asP_inv e
    obtain ⟨_, rfl, e2⟩ := asSome_inv e1
    cases k with
    | zero => cases e2
    | succ k =>
      exact func_ok wide_ok hX0 tab_ok (hC k rfl) Try.func80 (by kernel_rfl : Try.f80.body = some spnext.c.code) (by decide) (by kernel_rfl : Try.f80.results.toList = spnext.res) (by kernel_rfl : icOk T Try.f80.ntmps spnext.c = true) R (fun i h => absurd h (hX0 i)) hv (Nat.le_of_ble_eq_true rfl) ((congrFun (spnext.ok k _ κ) h).trans e2)
theorem spmakes.call (k : Nat) (hC : ∀ j, k = j + 1 → CallOk Try.prog T base w0 (env (α := α) j)) : FnOk Try.prog T base w0 (env (α := α) k) 75 := by
  intro X ι h w args xs κ out hX0 R hv e
  have e : env_75 k args κ h = some out := e
  unfold env_75 at e
  match args, hv, e with
  | [a0], hv, e =>
    obtain ⟨_, rfl, e1⟩ := asP_inv e
    obtain ⟨_, rfl, e2⟩ := asSome_inv e1
    cases k with
    | zero => cases e2
    | succ k =>
      exact func_ok wide_ok hX0 tab_ok (hC k rfl) Try.func75 (by kernel_rfl : Try.f75.body = some spmakes.c.code) (by decide) (by kernel_rfl : Try.f75.results.toList = spmakes.res) (by kernel_rfl : icOk T Try.f75.ntmps spmakes.c = true) R (fun i h => absurd h (hX0 i)) hv (Nat.le_of_ble_eq_true rfl) ((congrFun (spmakes.ok k _ κ) h).trans e2)
theorem spnode.call (k : Nat) (hC : ∀ j, k = j + 1 → CallOk Try.prog T base w0 (env (α := α) j)) : FnOk Try.prog T base w0 (env (α := α) k) 76 := by
  intro X ι h w args xs κ out hX0 R hv e
  have e : env_76 k args κ h = some out := e
  unfold env_76 at e
  match args, hv, e with
  | [a0, a1], hv, e =>
    obtain ⟨_, rfl, e1⟩ := asP_inv e
    obtain ⟨_, rfl, e2⟩ := asSome_inv e1
    obtain ⟨_, rfl, e3⟩ := asAgg_inv e2
    obtain ⟨_, _, rfl, e4⟩ := uncons_inv e3
    obtain ⟨_, rfl, e5⟩ := asI_inv e4
    obtain ⟨_, _, rfl, e6⟩ := uncons_inv e5
    obtain ⟨_, rfl, e7⟩ := asI_inv e6
    obtain ⟨_, _, rfl, e8⟩ := uncons_inv e7
    obtain ⟨_, rfl, e9⟩ := asI_inv e8
    obtain ⟨_, _, rfl, e10⟩ := uncons_inv e9
    obtain ⟨_, rfl, e11⟩ := asStr_inv e10
    obtain ⟨_, _, rfl, e12⟩ := uncons_inv e11
    obtain ⟨_, rfl, e13⟩ := asI_inv e12
    obtain ⟨rfl, e14⟩ := unnil_inv e13
    cases k with
    | zero => cases e14
    | succ k =>
      exact func_ok wide_ok hX0 tab_ok (hC k rfl) Try.func76 (by kernel_rfl : Try.f76.body = some spnode.c.code) (by decide) (by kernel_rfl : Try.f76.results.toList = spnode.res) (by kernel_rfl : icOk T Try.f76.ntmps spnode.c = true) R (fun i h => absurd h (hX0 i)) hv (Nat.le_of_ble_eq_true rfl) ((congrFun (spnode.ok k _ _ _ _ _ _ κ) h).trans e14)
theorem spwrong.call (k : Nat) (hC : ∀ j, k = j + 1 → CallOk Try.prog T base w0 (env (α := α) j)) : FnOk Try.prog T base w0 (env (α := α) k) 49 := by
  intro X ι h w args xs κ out hX0 R hv e
  have e : env_49 k args κ h = some out := e
  unfold env_49 at e
  match args, hv, e with
  | [a0], hv, e =>
    obtain ⟨_, rfl, e1⟩ := asP_inv e
    obtain ⟨_, rfl, e2⟩ := asSome_inv e1
    cases k with
    | zero => cases e2
    | succ k =>
      exact func_ok wide_ok hX0 tab_ok (hC k rfl) Try.func49 (by kernel_rfl : Try.f49.body = some spwrong.c.code) (by decide) (by kernel_rfl : Try.f49.results.toList = spwrong.res) (by kernel_rfl : icOk T Try.f49.ntmps spwrong.c = true) R (fun i h => absurd h (hX0 i)) hv (Nat.le_of_ble_eq_true rfl) ((congrFun (spwrong.ok k _ κ) h).trans e2)
theorem syntax_word.call (k : Nat) (hC : ∀ j, k = j + 1 → CallOk Try.prog T base w0 (env (α := α) j)) : FnOk Try.prog T base w0 (env (α := α) k) 66 := by
  intro X ι h w args xs κ out hX0 R hv e
  have e : env_66 k args κ h = some out := e
  unfold env_66 at e
  match args, hv, e with
  | [a0], hv, e =>
    obtain ⟨_, rfl, e1⟩ := asStr_inv e
    cases k with
    | zero => cases e1
    | succ k =>
      exact func_ok wide_ok hX0 tab_ok (hC k rfl) Try.func66 (by kernel_rfl : Try.f66.body = some syntax_word.c.code) (by decide) (by kernel_rfl : Try.f66.results.toList = syntax_word.res) (by kernel_rfl : icOk T Try.f66.ntmps syntax_word.c = true) R (fun i h => absurd h (hX0 i)) hv (Nat.le_of_ble_eq_true rfl) ((congrFun (syntax_word.ok k _ κ) h).trans e1)
theorem spneed.call (k : Nat) (hC : ∀ j, k = j + 1 → CallOk Try.prog T base w0 (env (α := α) j)) : FnOk Try.prog T base w0 (env (α := α) k) 82 := by
  intro X ι h w args xs κ out hX0 R hv e
  have e : env_82 k args κ h = some out := e
  unfold env_82 at e
  match args, hv, e with
  | [a0, a1], hv, e =>
    obtain ⟨_, rfl, e1⟩ := asP_inv e
    obtain ⟨_, rfl, e2⟩ := asSome_inv e1
    obtain ⟨_, rfl, e3⟩ := asStr_inv e2
    cases k with
    | zero => cases e3
    | succ k =>
      exact func_ok wide_ok hX0 tab_ok (hC k rfl) Try.func82 (by kernel_rfl : Try.f82.body = some spneed.c.code) (by decide) (by kernel_rfl : Try.f82.results.toList = spneed.res) (by kernel_rfl : icOk T Try.f82.ntmps spneed.c = true) R (fun i h => absurd h (hX0 i)) hv (Nat.le_of_ble_eq_true rfl) ((congrFun (spneed.ok k _ _ κ) h).trans e3)
theorem spstep.call (k : Nat) (hC : ∀ j, k = j + 1 → CallOk Try.prog T base w0 (env (α := α) j)) : FnOk Try.prog T base w0 (env (α := α) k) 81 := by
  intro X ι h w args xs κ out hX0 R hv e
  have e : env_81 k args κ h = some out := e
  unfold env_81 at e
  match args, hv, e with
  | [a0, a1], hv, e =>
    obtain ⟨_, rfl, e1⟩ := asP_inv e
    obtain ⟨_, rfl, e2⟩ := asSome_inv e1
    obtain ⟨_, rfl, e3⟩ := asStr_inv e2
    cases k with
    | zero => cases e3
    | succ k =>
      exact func_ok wide_ok hX0 tab_ok (hC k rfl) Try.func81 (by kernel_rfl : Try.f81.body = some spstep.c.code) (by decide) (by kernel_rfl : Try.f81.results.toList = spstep.res) (by kernel_rfl : icOk T Try.f81.ntmps spstep.c = true) R (fun i h => absurd h (hX0 i)) hv (Nat.le_of_ble_eq_true rfl) ((congrFun (spstep.ok k _ _ κ) h).trans e3)
theorem spformula.call (k : Nat) (hC : ∀ j, k = j + 1 → CallOk Try.prog T base w0 (env (α := α) j)) : FnOk Try.prog T base w0 (env (α := α) k) 48 := by
  intro X ι h w args xs κ out hX0 R hv e
  have e : env_48 k args κ h = some out := e
  unfold env_48 at e
  match args, hv, e with
  | [a0], hv, e =>
    obtain ⟨_, rfl, e1⟩ := asP_inv e
    obtain ⟨_, rfl, e2⟩ := asSome_inv e1
    cases k with
    | zero => cases e2
    | succ k =>
      exact func_ok wide_ok hX0 tab_ok (hC k rfl) Try.func48 (by kernel_rfl : Try.f48.body = some spformula.c.code) (by decide) (by kernel_rfl : Try.f48.results.toList = spformula.res) (by kernel_rfl : icOk T Try.f48.ntmps spformula.c = true) R (fun i h => absurd h (hX0 i)) hv (Nat.le_of_ble_eq_true rfl) ((congrFun (spformula.ok k _ κ) h).trans e2)
theorem sprow.call (k : Nat) (hC : ∀ j, k = j + 1 → CallOk Try.prog T base w0 (env (α := α) j)) : FnOk Try.prog T base w0 (env (α := α) k) 62 := by
  intro X ι h w args xs κ out hX0 R hv e
  have e : env_62 k args κ h = some out := e
  unfold env_62 at e
  match args, hv, e with
  | [a0, a1, a2, a3], hv, e =>
    obtain ⟨_, rfl, e1⟩ := asP_inv e
    obtain ⟨_, rfl, e2⟩ := asSome_inv e1
    obtain ⟨_, rfl, e3⟩ := asStr_inv e2
    obtain ⟨_, rfl, e4⟩ := asI_inv e3
    cases k with
    | zero => cases e4
    | succ k =>
      exact func_ok wide_ok hX0 tab_ok (hC k rfl) Try.func62 (by kernel_rfl : Try.f62.body = some sprow.c.code) (by decide) (by kernel_rfl : Try.f62.results.toList = sprow.res) (by kernel_rfl : icOk T Try.f62.ntmps sprow.c = true) R (fun i h => absurd h (hX0 i)) hv (Nat.le_of_ble_eq_true rfl) ((congrFun (sprow.ok k _ _ _ _ κ) h).trans e4)
theorem spand.call (k : Nat) (hC : ∀ j, k = j + 1 → CallOk Try.prog T base w0 (env (α := α) j)) : FnOk Try.prog T base w0 (env (α := α) k) 63 := by
  intro X ι h w args xs κ out hX0 R hv e
  have e : env_63 k args κ h = some out := e
  unfold env_63 at e
  match args, hv, e with
  | [a0], hv, e =>
    obtain ⟨_, rfl, e1⟩ := asP_inv e
    obtain ⟨_, rfl, e2⟩ := asSome_inv e1
    cases k with
    | zero => cases e2
    | succ k =>
      exact func_ok wide_ok hX0 tab_ok (hC k rfl) Try.func63 (by kernel_rfl : Try.f63.body = some spand.c.code) (by decide) (by kernel_rfl : Try.f63.results.toList = spand.res) (by kernel_rfl : icOk T Try.f63.ntmps spand.c = true) R (fun i h => absurd h (hX0 i)) hv (Nat.le_of_ble_eq_true rfl) ((congrFun (spand.ok k _ κ) h).trans e2)
theorem spunary.call (k : Nat) (hC : ∀ j, k = j + 1 → CallOk Try.prog T base w0 (env (α := α) j)) : FnOk Try.prog T base w0 (env (α := α) k) 77 := by
  intro X ι h w args xs κ out hX0 R hv e
  have e : env_77 k args κ h = some out := e
  unfold env_77 at e
  match args, hv, e with
  | [a0], hv, e =>
    obtain ⟨_, rfl, e1⟩ := asP_inv e
    obtain ⟨_, rfl, e2⟩ := asSome_inv e1
    cases k with
    | zero => cases e2
    | succ k =>
      exact func_ok wide_ok hX0 tab_ok (hC k rfl) Try.func77 (by kernel_rfl : Try.f77.body = some spunary.c.code) (by decide) (by kernel_rfl : Try.f77.results.toList = spunary.res) (by kernel_rfl : icOk T Try.f77.ntmps spunary.c = true) R (fun i h => absurd h (hX0 i)) hv (Nat.le_of_ble_eq_true rfl) ((congrFun (spunary.ok k _ κ) h).trans e2)
theorem spword.call (k : Nat) (hC : ∀ j, k = j + 1 → CallOk Try.prog T base w0 (env (α := α) j)) : FnOk Try.prog T base w0 (env (α := α) k) 83 := by
  intro X ι h w args xs κ out hX0 R hv e
  have e : env_83 k args κ h = some out := e
  unfold env_83 at e
  match args, hv, e with
  | [a0], hv, e =>
    obtain ⟨_, rfl, e1⟩ := asP_inv e
    obtain ⟨_, rfl, e2⟩ := asSome_inv e1
    cases k with
    | zero => cases e2
    | succ k =>
      exact func_ok wide_ok hX0 tab_ok (hC k rfl) Try.func83 (by kernel_rfl : Try.f83.body = some spword.c.code) (by decide) (by kernel_rfl : Try.f83.results.toList = spword.res) (by kernel_rfl : icOk T Try.f83.ntmps spword.c = true) R (fun i h => absurd h (hX0 i)) hv (Nat.le_of_ble_eq_true rfl) ((congrFun (spword.ok k _ κ) h).trans e2)
theorem syntax_Parse.call (k : Nat) (hC : ∀ j, k = j + 1 → CallOk Try.prog T base w0 (env (α := α) j)) : FnOk Try.prog T base w0 (env (α := α) k) 27 := by
  intro X ι h w args xs κ out hX0 R hv e
  have e : env_27 k args κ h = some out := e
  unfold env_27 at e
  match args, hv, e with
  | [a0], hv, e =>
    obtain ⟨_, rfl, e1⟩ := asStr_inv e
    cases k with
    | zero => cases e1
    | succ k =>
      exact defer_calls (pre := syntax_Parse.as) (B := syntax_Parse.u2.c) (C := syntax_Parse.C.u1.c) (id := 4) (t := 14) (ops := opsOf Try.f27 4) (mk := opAt Try.f27 4 0) (df := opAt Try.f27 4 1) (g := 45) (caps := [.tmp 2, .tmp 3]) (idr := 0) (d0 := 5) (rops := opsOf Try.f45 0) (ro := opAt Try.f45 0 0) (rs := syntax_Parse.res) (keep := [2, 3]) (dts := #[]) (cts := #[]) wide_ok hX0 tab_ok (hC k rfl) Try.func27 (by kernel_rfl : Try.f27.body = some (nest syntax_Parse.as (.seq (.region 4 (opsOf Try.f27 4) false) syntax_Parse.u2.c.code))) (by decide) (by kernel_rfl) (by kernel_rfl) (by kernel_rfl) (by kernel_rfl) (by decide) (by decide) (by kernel_rfl) (by kernel_rfl) (by kernel_rfl) (by kernel_rfl) (by kernel_rfl) (by kernel_rfl) (by kernel_rfl) Try.func45 (by decide) (by kernel_rfl : Try.f45.body = some (.seq (.region 0 (opsOf Try.f45 0) false) syntax_Parse.C.u1.c.code)) (by kernel_rfl) (by kernel_rfl) (by kernel_rfl) (by kernel_rfl) (by kernel_rfl) (by kernel_rfl) (by decide) (by decide) R hv (Nat.le_of_ble_eq_true rfl) ((congrFun (syntax_Parse.ok k _ κ) h).trans e1)
theorem syntax_spelt.call (k : Nat) (hC : ∀ j, k = j + 1 → CallOk Try.prog T base w0 (env (α := α) j)) : FnOk Try.prog T base w0 (env (α := α) k) 65 := by
  intro X ι h w args xs κ out hX0 R hv e
  have e : env_65 k args κ h = some out := e
  unfold env_65 at e
  match args, hv, e with
  | [a0, a1, a2], hv, e =>
    obtain ⟨_, rfl, e1⟩ := asStr_inv e
    obtain ⟨_, rfl, e2⟩ := asI_inv e1
    obtain ⟨_, rfl, e3⟩ := asI_inv e2
    cases k with
    | zero => cases e3
    | succ k =>
      exact func_ok wide_ok hX0 tab_ok (hC k rfl) Try.func65 (by kernel_rfl : Try.f65.body = some syntax_spelt.c.code) (by decide) (by kernel_rfl : Try.f65.results.toList = syntax_spelt.res) (by kernel_rfl : icOk T Try.f65.ntmps syntax_spelt.c = true) R (fun i h => absurd h (hX0 i)) hv (Nat.le_of_ble_eq_true rfl) ((congrFun (syntax_spelt.ok k _ _ _ κ) h).trans e3)
theorem syntax_name.call (k : Nat) (hC : ∀ j, k = j + 1 → CallOk Try.prog T base w0 (env (α := α) j)) : FnOk Try.prog T base w0 (env (α := α) k) 51 := by
  intro X ι h w args xs κ out hX0 R hv e
  have e : env_51 k args κ h = some out := e
  unfold env_51 at e
  match args, hv, e with
  | [a0], hv, e =>
    obtain ⟨_, rfl, e1⟩ := asStr_inv e
    cases k with
    | zero => cases e1
    | succ k =>
      exact func_ok wide_ok hX0 tab_ok (hC k rfl) Try.func51 (by kernel_rfl : Try.f51.body = some syntax_name.c.code) (by decide) (by kernel_rfl : Try.f51.results.toList = syntax_name.res) (by kernel_rfl : icOk T Try.f51.ntmps syntax_name.c = true) R (fun i h => absurd h (hX0 i)) hv (Nat.le_of_ble_eq_true rfl) ((congrFun (syntax_name.ok k _ κ) h).trans e1)
theorem syntax_variable.call (k : Nat) (hC : ∀ j, k = j + 1 → CallOk Try.prog T base w0 (env (α := α) j)) : FnOk Try.prog T base w0 (env (α := α) k) 52 := by
  intro X ι h w args xs κ out hX0 R hv e
  have e : env_52 k args κ h = some out := e
  unfold env_52 at e
  match args, hv, e with
  | [a0], hv, e =>
    obtain ⟨_, rfl, e1⟩ := asStr_inv e
    cases k with
    | zero => cases e1
    | succ k =>
      exact func_ok wide_ok hX0 tab_ok (hC k rfl) Try.func52 (by kernel_rfl : Try.f52.body = some syntax_variable.c.code) (by decide) (by kernel_rfl : Try.f52.results.toList = syntax_variable.res) (by kernel_rfl : icOk T Try.f52.ntmps syntax_variable.c = true) R (fun i h => absurd h (hX0 i)) hv (Nat.le_of_ble_eq_true rfl) ((congrFun (syntax_variable.ok k _ κ) h).trans e1)
theorem syntax_below.call (k : Nat) (hC : ∀ j, k = j + 1 → CallOk Try.prog T base w0 (env (α := α) j)) : FnOk Try.prog T base w0 (env (α := α) k) 36 := by
  intro X ι h w args xs κ out hX0 R hv e
  have e : env_36 k args κ h = some out := e
  unfold env_36 at e
  match args, hv, e with
  | [a0], hv, e =>
    obtain ⟨_, rfl, e1⟩ := asAgg_inv e
    obtain ⟨_, _, rfl, e2⟩ := uncons_inv e1
    obtain ⟨_, rfl, e3⟩ := asI_inv e2
    obtain ⟨_, _, rfl, e4⟩ := uncons_inv e3
    obtain ⟨_, rfl, e5⟩ := asI_inv e4
    obtain ⟨_, _, rfl, e6⟩ := uncons_inv e5
    obtain ⟨_, rfl, e7⟩ := asI_inv e6
    obtain ⟨_, _, rfl, e8⟩ := uncons_inv e7
    obtain ⟨_, rfl, e9⟩ := asStr_inv e8
    obtain ⟨_, _, rfl, e10⟩ := uncons_inv e9
    obtain ⟨_, rfl, e11⟩ := asI_inv e10
    obtain ⟨rfl, e12⟩ := unnil_inv e11
    cases k with
    | zero => cases e12
    | succ k =>
      exact func_ok wide_ok hX0 tab_ok (hC k rfl) Try.func36 (by kernel_rfl : Try.f36.body = some syntax_below.c.code) (by decide) (by kernel_rfl : Try.f36.results.toList = syntax_below.res) (by kernel_rfl : icOk T Try.f36.ntmps syntax_below.c = true) R (fun i h => absurd h (hX0 i)) hv (Nat.le_of_ble_eq_true rfl) ((congrFun (syntax_below.ok k _ _ _ _ _ κ) h).trans e12)
theorem syntax_Right_c1.call (k : Nat) (hC : ∀ j, k = j + 1 → CallOk Try.prog T base w0 (env (α := α) j)) : FnOk Try.prog T base w0 (env (α := α) k) 38 := by
  intro X ι h w args xs κ out hX0 R hv e
  have e : env_38 k args κ h = some out := e
  unfold env_38 at e
  match args, hv, e with
  | [a0], hv, e =>
    obtain ⟨_, rfl, e1⟩ := asI_inv e
    cases k with
    | zero => cases e1
    | succ k =>
      exact func_ok wide_ok hX0 tab_ok (hC k rfl) Try.func38 (by kernel_rfl : Try.f38.body = some syntax_Right_c1.c.code) (by decide) (by kernel_rfl : Try.f38.results.toList = syntax_Right_c1.res) (by kernel_rfl : icOk T Try.f38.ntmps syntax_Right_c1.c = true) R (fun i h => absurd h (hX0 i)) hv (Nat.le_of_ble_eq_true rfl) ((congrFun (syntax_Right_c1.ok k _ κ) h).trans e1)
theorem slII.call (k : Nat) (hC : ∀ j, k = j + 1 → CallOk Try.prog T base w0 (env (α := α) j)) : FnOk Try.prog T base w0 (env (α := α) k) 53 := by
  intro X ι h w args xs κ out hX0 R hv e
  have e : env_53 k args κ h = some out := e
  unfold env_53 at e
  match args, hv, e with
  | [a0, a1], hv, e =>
    obtain ⟨_, rfl, e1⟩ := asS_inv e
    obtain ⟨_, _, _, rfl, e2⟩ := asFunc_inv e1
    obtain ⟨hbe3, e3⟩ := need_inv e2
    obtain rfl := Nat.eq_of_beq_eq_true hbe3
    obtain ⟨rfl, e4⟩ := unnil_inv e3
    obtain ⟨rfl, e5⟩ := unnil_inv e4
    cases k with
    | zero => cases e5
    | succ k =>
      exact func_ok wide_ok hX0 tab_ok (hC k rfl) Try.func53 (by kernel_rfl : Try.f53.body = some slII.c.code) (by decide) (by kernel_rfl : Try.f53.results.toList = slII.res) (by kernel_rfl : icOk T Try.f53.ntmps slII.c = true) R (fun i h => absurd h (hX0 i)) hv (Nat.le_of_ble_eq_true rfl) ((congrFun (slII.ok k _ κ) h).trans e5)
theorem slices_ContainsFunc_int_int_38.call (k : Nat) (hC : ∀ j, k = j + 1 → CallOk Try.prog T base w0 (env (α := α) j)) : FnOk Try.prog T base w0 (env (α := α) k) 37 := by
  intro X ι h w args xs κ out hX0 R hv e
  have e : env_37 k args κ h = some out := e
  unfold env_37 at e
  match args, hv, e with
  | [a0, a1], hv, e =>
    obtain ⟨_, rfl, e1⟩ := asS_inv e
    obtain ⟨_, _, _, rfl, e2⟩ := asFunc_inv e1
    obtain ⟨hbe3, e3⟩ := need_inv e2
    obtain rfl := Nat.eq_of_beq_eq_true hbe3
    obtain ⟨rfl, e4⟩ := unnil_inv e3
    obtain ⟨rfl, e5⟩ := unnil_inv e4
    cases k with
    | zero => cases e5
    | succ k =>
      exact func_ok wide_ok hX0 tab_ok (hC k rfl) Try.func37 (by kernel_rfl : Try.f37.body = some slices_ContainsFunc_int_int_38.c.code) (by decide) (by kernel_rfl : Try.f37.results.toList = slices_ContainsFunc_int_int_38.res) (by kernel_rfl : icOk T Try.f37.ntmps slices_ContainsFunc_int_int_38.c = true) R (fun i h => absurd h (hX0 i)) hv (Nat.le_of_ble_eq_true rfl) ((congrFun (slices_ContainsFunc_int_int_38.ok k _ κ) h).trans e5)
theorem slEq.call (k : Nat) (hC : ∀ j, k = j + 1 → CallOk Try.prog T base w0 (env (α := α) j)) : FnOk Try.prog T base w0 (env (α := α) k) 39 := by
  intro X ι h w args xs κ out hX0 R hv e
  have e : env_39 k args κ h = some out := e
  unfold env_39 at e
  match args, hv, e with
  | [a0, a1], hv, e =>
    obtain ⟨_, rfl, e1⟩ := asS_inv e
    obtain ⟨_, rfl, e2⟩ := asS_inv e1
    cases k with
    | zero => cases e2
    | succ k =>
      exact func_ok wide_ok hX0 tab_ok (hC k rfl) Try.func39 (by kernel_rfl : Try.f39.body = some slEq.c.code) (by decide) (by kernel_rfl : Try.f39.results.toList = slEq.res) (by kernel_rfl : icOk T Try.f39.ntmps slEq.c = true) R (fun i h => absurd h (hX0 i)) hv (Nat.le_of_ble_eq_true rfl) ((congrFun (slEq.ok k _ _ κ) h).trans e2)
theorem syntax_Right.call (k : Nat) (hC : ∀ j, k = j + 1 → CallOk Try.prog T base w0 (env (α := α) j)) : FnOk Try.prog T base w0 (env (α := α) k) 19 := by
  intro X ι h w args xs κ out hX0 R hv e
  have e : env_19 k args κ h = some out := e
  unfold env_19 at e
  match args, hv, e with
  | [a0], hv, e =>
    obtain ⟨_, rfl, e1⟩ := asS_inv e
    cases k with
    | zero => cases e1
    | succ k =>
      exact func_ok wide_ok hX0 tab_ok (hC k rfl) Try.func19 (by kernel_rfl : Try.f19.body = some syntax_Right.c.code) (by decide) (by kernel_rfl : Try.f19.results.toList = syntax_Right.res) (by kernel_rfl : icOk T Try.f19.ntmps syntax_Right.c = true) R (fun i h => absurd h (hX0 i)) hv (Nat.le_of_ble_eq_true rfl) ((congrFun (syntax_Right.ok k _ κ) h).trans e1)
theorem strings_Builder_WriteString.call (k : Nat) (hC : ∀ j, k = j + 1 → CallOk Try.prog T base w0 (env (α := α) j)) : FnOk Try.prog T base w0 (env (α := α) k) 56 := by
  intro X ι h w args xs κ out hX0 R hv e
  have e : env_56 k args κ h = some out := e
  unfold env_56 at e
  match args, hv, e with
  | [a0, a1], hv, e =>
    obtain ⟨_, rfl, e1⟩ := asP_inv e
    obtain ⟨_, rfl, e2⟩ := asSome_inv e1
    obtain ⟨_, rfl, e3⟩ := asStr_inv e2
    cases k with
    | zero => cases e3
    | succ k =>
      exact func_ok wide_ok hX0 tab_ok (hC k rfl) Try.func56 (by kernel_rfl : Try.f56.body = some strings_Builder_WriteString.c.code) (by decide) (by kernel_rfl : Try.f56.results.toList = strings_Builder_WriteString.res) (by kernel_rfl : icOk T Try.f56.ntmps strings_Builder_WriteString.c = true) R (fun i h => absurd h (hX0 i)) hv (Nat.le_of_ble_eq_true rfl) ((congrFun (strings_Builder_WriteString.ok k _ _ κ) h).trans e3)
theorem syntax_fix.call (k : Nat) (hC : ∀ j, k = j + 1 → CallOk Try.prog T base w0 (env (α := α) j)) : FnOk Try.prog T base w0 (env (α := α) k) 68 := by
  intro X ι h w args xs κ out hX0 R hv e
  have e : env_68 k args κ h = some out := e
  unfold env_68 at e
  match args, hv, e with
  | [a0], hv, e =>
    obtain ⟨_, rfl, e1⟩ := asI_inv e
    cases k with
    | zero => cases e1
    | succ k =>
      exact func_ok wide_ok hX0 tab_ok (hC k rfl) Try.func68 (by kernel_rfl : Try.f68.body = some syntax_fix.c.code) (by decide) (by kernel_rfl : Try.f68.results.toList = syntax_fix.res) (by kernel_rfl : icOk T Try.f68.ntmps syntax_fix.c = true) R (fun i h => absurd h (hX0 i)) hv (Nat.le_of_ble_eq_true rfl) ((congrFun (syntax_fix.ok k _ κ) h).trans e1)
theorem syntax_write.call (k : Nat) (hC : ∀ j, k = j + 1 → CallOk Try.prog T base w0 (env (α := α) j)) : FnOk Try.prog T base w0 (env (α := α) k) 41 := by
  intro X ι h w args xs κ out hX0 R hv e
  have e : env_41 k args κ h = some out := e
  unfold env_41 at e
  match args, hv, e with
  | [a0, a1, a2], hv, e =>
    obtain ⟨_, rfl, e1⟩ := asP_inv e
    obtain ⟨_, rfl, e2⟩ := asSome_inv e1
    obtain ⟨_, rfl, e3⟩ := asS_inv e2
    obtain ⟨_, rfl, e4⟩ := asI_inv e3
    cases k with
    | zero => cases e4
    | succ k =>
      exact func_ok wide_ok hX0 tab_ok (hC k rfl) Try.func41 (by kernel_rfl : Try.f41.body = some syntax_write.c.code) (by decide) (by kernel_rfl : Try.f41.results.toList = syntax_write.res) (by kernel_rfl : icOk T Try.f41.ntmps syntax_write.c = true) R (fun i h => absurd h (hX0 i)) hv (Nat.le_of_ble_eq_true rfl) ((congrFun (syntax_write.ok k _ _ _ κ) h).trans e4)
theorem syntax_operand.call (k : Nat) (hC : ∀ j, k = j + 1 → CallOk Try.prog T base w0 (env (α := α) j)) : FnOk Try.prog T base w0 (env (α := α) k) 57 := by
  intro X ι h w args xs κ out hX0 R hv e
  have e : env_57 k args κ h = some out := e
  unfold env_57 at e
  match args, hv, e with
  | [a0, a1, a2, a3, a4], hv, e =>
    obtain ⟨_, rfl, e1⟩ := asP_inv e
    obtain ⟨_, rfl, e2⟩ := asSome_inv e1
    obtain ⟨_, rfl, e3⟩ := asS_inv e2
    obtain ⟨_, rfl, e4⟩ := asI_inv e3
    obtain ⟨_, rfl, e5⟩ := asI_inv e4
    obtain ⟨_, rfl, e6⟩ := asB_inv e5
    cases k with
    | zero => cases e6
    | succ k =>
      exact func_ok wide_ok hX0 tab_ok (hC k rfl) Try.func57 (by kernel_rfl : Try.f57.body = some syntax_operand.c.code) (by decide) (by kernel_rfl : Try.f57.results.toList = syntax_operand.res) (by kernel_rfl : icOk T Try.f57.ntmps syntax_operand.c = true) R (fun i h => absurd h (hX0 i)) hv (Nat.le_of_ble_eq_true rfl) ((congrFun (syntax_operand.ok k _ _ _ _ _ κ) h).trans e6)
theorem syntax_Print.call (k : Nat) (hC : ∀ j, k = j + 1 → CallOk Try.prog T base w0 (env (α := α) j)) : FnOk Try.prog T base w0 (env (α := α) k) 25 := by
  intro X ι h w args xs κ out hX0 R hv e
  have e : env_25 k args κ h = some out := e
  unfold env_25 at e
  match args, hv, e with
  | [a0], hv, e =>
    obtain ⟨_, rfl, e1⟩ := asS_inv e
    cases k with
    | zero => cases e1
    | succ k =>
      exact func_ok wide_ok hX0 tab_ok (hC k rfl) Try.func25 (by kernel_rfl : Try.f25.body = some syntax_Print.c.code) (by decide) (by kernel_rfl : Try.f25.results.toList = syntax_Print.res) (by kernel_rfl : icOk T Try.f25.ntmps syntax_Print.c = true) R (fun i h => absurd h (hX0 i)) hv (Nat.le_of_ble_eq_true rfl) ((congrFun (syntax_Print.ok k _ κ) h).trans e1)
theorem w4shown.call (k : Nat) (hC : ∀ j, k = j + 1 → CallOk Try.prog T base w0 (env (α := α) j)) : FnOk Try.prog T base w0 (env (α := α) k) 21 := by
  intro X ι h w args xs κ out hX0 R hv e
  have e : env_21 k args κ h = some out := e
  unfold env_21 at e
  match args, hv, e with
  | [], hv, e =>
    cases k with
    | zero => cases e
    | succ k =>
      exact func_ok wide_ok hX0 tab_ok (hC k rfl) Try.func21 (by kernel_rfl : Try.f21.body = some w4shown.c.code) (by decide) (by kernel_rfl : Try.f21.results.toList = w4shown.res) (by kernel_rfl : icOk T Try.f21.ntmps w4shown.c = true) R (fun i h => absurd h (hX0 i)) hv (Nat.le_of_ble_eq_true rfl) ((congrFun (w4shown.ok k κ) h).trans e)
theorem w4SyntaxSteps.call (k : Nat) (hC : ∀ j, k = j + 1 → CallOk Try.prog T base w0 (env (α := α) j)) : FnOk Try.prog T base w0 (env (α := α) k) 11 := by
  intro X ι h w args xs κ out hX0 R hv e
  have e : env_11 k args κ h = some out := e
  unfold env_11 at e
  match args, hv, e with
  | [a0], hv, e =>
    obtain ⟨_, rfl, e1⟩ := asStr_inv e
    cases k with
    | zero => cases e1
    | succ k =>
      exact func_ok wide_ok hX0 tab_ok (hC k rfl) Try.func11 (by kernel_rfl : Try.f11.body = some w4SyntaxSteps.c.code) (by decide) (by kernel_rfl : Try.f11.results.toList = w4SyntaxSteps.res) (by kernel_rfl : icOk T Try.f11.ntmps w4SyntaxSteps.c = true) R (fun i h => absurd h (hX0 i)) hv (Nat.le_of_ble_eq_true rfl) ((congrFun (w4SyntaxSteps.ok k _ κ) h).trans e1)
end
end Go.Ab.S3
