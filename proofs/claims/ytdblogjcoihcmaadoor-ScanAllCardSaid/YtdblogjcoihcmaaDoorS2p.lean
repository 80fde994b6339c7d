import Derived.Test.YtdblogjcoihcmaaDoorAb16
import Derived.Test.YtdblogjcoihcmaaDoorS2b
import Derived.Test.YtdblogjcoihcmaaDoorS2as
namespace Go.Ab.S2
open Go.Proofs
set_option linter.unusedVariables false
set_option linter.unusedSimpArgs false
variable {α : Type} {base : Nat} {w0 : World}
/-- what the row says of errors.errorType -/
def Laid (base : Nat) (w0 : World) : Prop := 0 < base ∧ w0.cell? ⟨0, 0, none⟩ = some (.iface 70 (.agg #[.pointer (some ⟨2, 25, none⟩)]))
theorem bytealg_IndexByteString.call (hL : Laid base w0) (k : Nat) (hC : ∀ j, k = j + 1 → CallOk Tryd.prog T base w0 (env (α := α) j)) : FnOk Tryd.prog T base w0 (env (α := α) k) 32 := by
  intro X ι h w args xs κ out hX0 R hv e
  have e : env_32 k args κ h = some out := e
  unfold env_32 at e
  match args, hv, e with
  | [a0, a1], hv, e =>
    obtain ⟨s, rfl, e1⟩ := asStr_inv e
    obtain ⟨c, rfl, e2⟩ := asI_inv e1
    cases k with
    | zero => cases e2
    | succ k =>
      have e2 : κ (.ret (.int .i64 (indexByte s c))) h = some out := e2
      obtain ⟨⟨b, hb, hs⟩, hc, hn⟩ : (∃ b : ByteArray, xs.toList[0]? = some (.string b) ∧ b.data.toList = s) ∧ xs.toList[1]? = some (.int .u8 c) ∧ xs.toList.length = 2 := by
        match hx : xs.toList, hv with
        | [x, y], hv =>
          obtain ⟨⟨b, h1, h2⟩, h3, _⟩ := hv
          exact ⟨⟨b, by rw [h1]; rfl, h2⟩, by rw [show y = _ from h3]; rfl, rfl⟩
      have hxs : xs = #[.string b, .int .u8 c] := by
        apply Array.ext'
        match hx : xs.toList with
        | [x, y] => rw [hx] at hb hc; simp at hb hc; rw [hb, hc]
        | [] => rw [hx] at hn; simp at hn
        | [_] => rw [hx] at hn; simp at hn
        | _ :: _ :: _ :: _ => rw [hx] at hn; simp at hn
      refine .inl ⟨_, .int .i64 (indexByte s c), h, ι, w, e2, ?_, R, Went.refl X ι h w, rfl⟩
      rw [run_callFunc_extern Tryd.func32 (by kernel_rfl) (by kernel_rfl) (by kernel_rfl) (by kernel_rfl : Extern.find Tryd.f32 = some Extern.BytealgIndexByte.indexByte), hxs, Lib.run_indexByteString]
      simp [indexByte, indexB_eq, hs]
theorem errors_As.call (hL : Laid base w0) (k : Nat) (hC : ∀ j, k = j + 1 → CallOk Tryd.prog T base w0 (env (α := α) j)) : FnOk Tryd.prog T base w0 (env (α := α) k) 18 := by
  intro X ι h w args xs κ out hX0 R hv e
  have e : env_18 k args κ h = some out := e
  unfold env_18 at e
  match args, hv, e with
  | [a0, a1], hv, e =>
    cases k with
    | zero => cases e
    | succ k =>
      have e1 : errorsAs 42 49 a0 a1 (fun o0 => κ (.ret (.bool o0))) h = some out := e
      have hen : (callFunc 18 xs).run Tryd.prog w = .ok (.enter 18 xs) w := by
        have h1 : ¬ Tryd.f18.name = "runtime.NumGoroutine" := by decide
        have h2 : Tryd.f18.body.isNone = false := by kernel_rfl
        have h3 : ¬ Tryd.f18.body = none := fun h => by rw [h] at h2; cases h2
        simp [callFunc, Tryd.func18, h1, h3]
      obtain ⟨x, y, rfl, hx, hy⟩ : ∃ x y, xs = #[x, y] ∧ VR ι (okOf h X) a0 x ∧ VR ι (okOf h X) a1 y := by
        match hxs : xs.toList, hv with
        | [x, y], hv => exact ⟨x, y, Array.ext' hxs, hv.1, hv.2.1⟩
      unfold errorsAs at e1
      cases a1 with
      | iface u v1 =>
        cases v1 with
        | ptr o =>
          cases o with
          | none => cases e1
          | some q =>
            dsimp only at e1
            obtain ⟨hu, e2⟩ := need_inv e1
            have hu := Nat.eq_of_beq_eq_true hu
            subst hu
            obtain ⟨y', rfl, hok, rfl⟩ := hy
            cases a0 with
            | nilIface =>
              have hx : x = .nilIface := hx
              subst hx
              refine .inr ⟨hen, (as_nil _ w).mono ?_⟩
              rintro e w' ⟨rfl, rfl⟩
              exact ⟨.ret (.bool false), h, ι, e2, R, Went.refl X ι h w', rfl⟩
            | iface t' v =>
              obtain ⟨ht, e3⟩ := need_inv e2
              have ht := Nat.eq_of_beq_eq_true ht
              subst ht
              obtain ⟨p, rfl, e4⟩ := asP_inv e3
              obtain ⟨p, rfl, e5⟩ := asSome_inv e4
              obtain ⟨x', rfl, hokp, rfl⟩ := hx
              obtain ⟨h', hs, e6⟩ := st1_inv e5
              have hg : w.cell? ⟨0, 0, none⟩ = some (.iface 70 (.agg #[.pointer (some ⟨2, 25, none⟩)])) := by
                rw [← hL.2]
                simp only [World.cell?, R.old 0 hL.1]
              obtain ⟨⟨old, hc⟩, hf, hone, _⟩ := R.setCell (v := .ptr (some p)) (x := .pointer (some (p.to ι))) (a := q) hok.2 ⟨hokp, rfl⟩ hs
              refine .inr ⟨hen, (as_hit (p.to ι) (q.to ι) old w hg hc hf).mono ?_⟩
              rintro e w' ⟨rfl, rfl⟩
              obtain ⟨R1, W1⟩ := R.other (.cells #[.pointer (some (q.to ι))] 49)
              obtain ⟨R2, W2⟩ := R1.other (.cells #[.pointer (some ⟨2, 49, none⟩), .pointer (some ⟨w.heap.size, 0, none⟩), .int .u64 150] 60)
              obtain ⟨R3, W3⟩ := R2.other (.cells #[.pointer (some ⟨2, 49, none⟩), .pointer (some ⟨w.heap.size, 0, none⟩), .int .u64 150] 60)
              obtain ⟨R4, W4⟩ := R3.other (.cells #[.pointer (some (p.to ι))] 42)
              obtain ⟨_, _, _, R5, W5⟩ := R4.setCell (v := .ptr (some p)) (x := .pointer (some (p.to ι))) (a := q) hok.2 ⟨hokp, rfl⟩ hs
              exact ⟨.ret (.bool true), h', ι, e6, R5, (((W1.trans W2).trans W3).trans W4).trans W5, rfl⟩
            | _ => cases e2
        | _ => cases e1
      | _ => cases e1
theorem env_step (hL : Laid base w0) (k : Nat) (hC : ∀ j, k = j + 1 → CallOk Tryd.prog T base w0 (env (α := α) j)) : CallOk Tryd.prog T base w0 (env (α := α) k) := by
  intro X ι h w g args xs κ out hX0 R hv e
  by_cases h32 : g = 32
  · subst h32; exact bytealg_IndexByteString.call hL k hC X ι h w args xs κ out hX0 R hv e
  by_cases h18 : g = 18
  · subst h18; exact errors_As.call hL k hC X ι h w args xs κ out hX0 R hv e
  by_cases h19 : g = 19
  · subst h19; exact stringslite_IndexByte.call k hC X ι h w args xs κ out hX0 R hv e
  by_cases h15 : g = 15
  · subst h15; exact strings_IndexByte.call k hC X ι h w args xs κ out hX0 R hv e
  by_cases h20 : g = 20
  · subst h20; exact scan_kind.call k hC X ι h w args xs κ out hX0 R hv e
  by_cases h21 : g = 21
  · subst h21; exact scan_long.call k hC X ι h w args xs κ out hX0 R hv e
  by_cases h22 : g = 22
  · subst h22; exact scan_value.call k hC X ι h w args xs κ out hX0 R hv e
  by_cases h16 : g = 16
  · subst h16; exact scan_token.call k hC X ι h w args xs κ out hX0 R hv e
  by_cases h11 : g = 11
  · subst h11; exact scan_All.call k hC X ι h w args xs κ out hX0 R hv e
  by_cases h13 : g = 13
  · subst h13; exact bailifflaw02_fault.call k hC X ι h w args xs κ out hX0 R hv e
  by_cases h10 : g = 10
  · subst h10; exact bailifflaw02_shown.call k hC X ι h w args xs κ out hX0 R hv e
  by_cases h23 : g = 23
  · subst h23; exact bailiffref02_small.call k hC X ι h w args xs κ out hX0 R hv e
  by_cases h24 : g = 24
  · subst h24; exact bailiffref02_capital.call k hC X ι h w args xs κ out hX0 R hv e
  by_cases h25 : g = 25
  · subst h25; exact bailiffref02_digit.call k hC X ι h w args xs κ out hX0 R hv e
  by_cases h33 : g = 33
  · subst h33; exact bailiffref02_inner.call k hC X ι h w args xs κ out hX0 R hv e
  by_cases h26 : g = 26
  · subst h26; exact bailiffref02_name.call k hC X ι h w args xs κ out hX0 R hv e
  by_cases h27 : g = 27
  · subst h27; exact bailiffref02_number.call k hC X ι h w args xs κ out hX0 R hv e
  by_cases h17 : g = 17
  · subst h17; exact bailiffref02_one.call k hC X ι h w args xs κ out hX0 R hv e
  by_cases h12 : g = 12
  · subst h12; exact bailiffref02_All.call k hC X ι h w args xs κ out hX0 R hv e
  by_cases h14 : g = 14
  · subst h14; exact bailifflaw02_same.call k hC X ι h w args xs κ out hX0 R hv e
  by_cases h3 : g = 3
  · subst h3; exact bailifflaw02_ScanAll.call k hC X ι h w args xs κ out hX0 R hv e
  by_cases h4 : g = 4
  · subst h4; exact bailifflaw02_ScanPieces.call k hC X ι h w args xs κ out hX0 R hv e
  by_cases h5 : g = 5
  · subst h5; exact bailifflaw02_ScanJoins.call k hC X ι h w args xs κ out hX0 R hv e
  by_cases h6 : g = 6
  · subst h6; exact bailifflaw02_ScanNames.call k hC X ι h w args xs κ out hX0 R hv e
  by_cases h7 : g = 7
  · subst h7; exact bailifflaw02_ScanSigns.call k hC X ι h w args xs κ out hX0 R hv e
  by_cases h8 : g = 8
  · subst h8; exact bailifflaw02_ScanUpTo.call k hC X ι h w args xs κ out hX0 R hv e
  by_cases h9 : g = 9
  · subst h9; exact bailifflaw02_ScanCuts.call k hC X ι h w args xs κ out hX0 R hv e
  exfalso
  have : env k g args κ h = none := by
    unfold env
    split <;> first | contradiction | rfl
  rw [this] at e
  cases e
theorem env_ok (hL : Laid base w0) : ∀ k : Nat, CallOk Tryd.prog T base w0 (env (α := α) k) := by
  intro k
  induction k with
  | zero => exact env_step hL 0 (fun j h => by cases h)
  | succ k ih => exact env_step hL (k + 1) (fun j h => by cases h; exact ih)
end Go.Ab.S2
