import Derived.Test.YtdblogjcoihcmaaDoorAb1
import Derived.Test.YtdblogjcoihcmaaDoorProg
import Derived.KernelRfl
namespace Go.Ab.S2
open Go.Proofs
set_option linter.unusedVariables false
set_option linter.unusedSimpArgs false
noncomputable def bytealg_IndexByteString.f {α : Type} : Nat → List UInt8 → Int → (Int → M α) → M α
  | 0, _, _, _ => fail
  | _ + 1, s, c, ret => ret (indexByte s c)

noncomputable def errors_As.f {α : Type} : Nat → V → V → (Bool → M α) → M α
  | 0, _, _, _ => fail
  | _ + 1, e, t, ret => errorsAs 42 49 e t ret

noncomputable def stringslite_IndexByte.u1.f {α : Type} (k : Nat) (x0 : List UInt8) (x1 : Int) (kr : Int → M α) : M α :=
  bytealg_IndexByteString.f k x0 x1 fun r4 =>
  kr r4
noncomputable def stringslite_IndexByte.u1.c : IC := (.seq (.ops 0 (opsOf Tryd.f19 0)) (.seq (.ops 1 (opsOf Tryd.f19 1)) (.ret [4])))
noncomputable def stringslite_IndexByte.f {α : Type} : Nat → List UInt8 → Int → (Int → M α) → M α
  | 0, _, _, _ => fail
  | k + 1, x0, x1, ret =>
    stringslite_IndexByte.u1.f k x0 x1 (fun y0 =>
      ret y0)

noncomputable def strings_IndexByte.u1.f {α : Type} (k : Nat) (x0 : List UInt8) (x1 : Int) (kr : Int → M α) : M α :=
  stringslite_IndexByte.f k x0 x1 fun r4 =>
  kr r4
noncomputable def strings_IndexByte.u1.c : IC := (.seq (.ops 0 (opsOf Tryd.f15 0)) (.seq (.ops 1 (opsOf Tryd.f15 1)) (.ret [4])))
noncomputable def strings_IndexByte.f {α : Type} : Nat → List UInt8 → Int → (Int → M α) → M α
  | 0, _, _, _ => fail
  | k + 1, x0, x1, ret =>
    strings_IndexByte.u1.f k x0 x1 (fun y0 =>
      ret y0)

noncomputable def scan_kind.u1.f {α : Type} (k : Nat) (x0 : Int) (kr : Int → M α) : M α :=
  cond (decide (x0 = 10)) (
    kr 1) (
    cond (decide (97 ≤ x0)) (
      cond (decide (x0 ≤ 122)) (
        kr 2) (
        cond (decide (65 ≤ x0)) (
          cond (decide (x0 ≤ 90)) (
            kr 3) (
            cond (decide (48 ≤ x0)) (
              cond (decide (x0 ≤ 57)) (
                kr 4) (
                cond (decide (32 < x0)) (
                  cond (decide (x0 < 127)) (
                    cond (!(decide (x0 = 95))) (
                      kr 5) (
                      kr 0)) (
                    kr 0)) (
                  kr 0))) (
              cond (decide (32 < x0)) (
                cond (decide (x0 < 127)) (
                  cond (!(decide (x0 = 95))) (
                    kr 5) (
                    kr 0)) (
                  kr 0)) (
                kr 0)))) (
          cond (decide (48 ≤ x0)) (
            cond (decide (x0 ≤ 57)) (
              kr 4) (
              cond (decide (32 < x0)) (
                cond (decide (x0 < 127)) (
                  cond (!(decide (x0 = 95))) (
                    kr 5) (
                    kr 0)) (
                  kr 0)) (
                kr 0))) (
            cond (decide (32 < x0)) (
              cond (decide (x0 < 127)) (
                cond (!(decide (x0 = 95))) (
                  kr 5) (
                  kr 0)) (
                kr 0)) (
              kr 0))))) (
      cond (decide (65 ≤ x0)) (
        cond (decide (x0 ≤ 90)) (
          kr 3) (
          cond (decide (48 ≤ x0)) (
            cond (decide (x0 ≤ 57)) (
              kr 4) (
              cond (decide (32 < x0)) (
                cond (decide (x0 < 127)) (
                  cond (!(decide (x0 = 95))) (
                    kr 5) (
                    kr 0)) (
                  kr 0)) (
                kr 0))) (
            cond (decide (32 < x0)) (
              cond (decide (x0 < 127)) (
                cond (!(decide (x0 = 95))) (
                  kr 5) (
                  kr 0)) (
                kr 0)) (
              kr 0)))) (
        cond (decide (48 ≤ x0)) (
          cond (decide (x0 ≤ 57)) (
            kr 4) (
            cond (decide (32 < x0)) (
              cond (decide (x0 < 127)) (
                cond (!(decide (x0 = 95))) (
                  kr 5) (
                  kr 0)) (
                kr 0)) (
              kr 0))) (
          cond (decide (32 < x0)) (
            cond (decide (x0 < 127)) (
              cond (!(decide (x0 = 95))) (
                kr 5) (
                kr 0)) (
              kr 0)) (
            kr 0)))))
noncomputable def scan_kind.u1.c : IC := (.seq (.ops 0 (opsOf Tryd.f20 0)) (.seq (.block 0 (.seq (.ops 1 (opsOf Tryd.f20 1)) (.cond (.tmp 3) (.seq (.ops 2 (opsOf Tryd.f20 2)) (.ret [2])) (.seq (.ops 3 (opsOf Tryd.f20 3)) (.cond (.tmp 6) (.seq (.ops 4 (opsOf Tryd.f20 4)) (.ret [2])) (.seq (.ops 5 (opsOf Tryd.f20 5)) (.cond (.tmp 13) (.seq (.ops 6 (opsOf Tryd.f20 6)) (.ret [2])) (.seq (.ops 7 (opsOf Tryd.f20 7)) (.cond (.tmp 20) (.seq (.ops 8 (opsOf Tryd.f20 8)) (.ret [2])) (.seq (.ops 9 (opsOf Tryd.f20 9)) (.cond (.tmp 27) (.seq (.ops 10 (opsOf Tryd.f20 10)) (.ret [2])) .skip))))))))))) (.seq (.ops 11 (opsOf Tryd.f20 11)) (.ret [2]))))
noncomputable def scan_kind.f {α : Type} : Nat → Int → (Int → M α) → M α
  | 0, _, _ => fail
  | k + 1, x0, ret =>
    scan_kind.u1.f k x0 (fun y0 =>
      ret y0)

noncomputable def scan_long.u1.f {α : Type} (k : Nat) (x0 : Int) (x1 : List UInt8) (kn : Int → List UInt8 → Int → M α) : M α :=
  kn x0 x1 1
noncomputable def scan_long.u1.c (R : IC) : IC := (.seq (.ops 0 (opsOf Tryd.f21 0)) (.seq (.cut [0, 1, 5] (.ops 1 (opsOf Tryd.f21 1))) R))
noncomputable def scan_long.u2.f {α : Type} (k : Nat) (x0 : Int) (x1 : List UInt8) (x2 : Int) (kn : List UInt8 → Int → Int → M α) : M α :=
  kn x1 x2 x0
noncomputable def scan_long.u2.c (R : IC) : IC := (.seq (.cut [1, 5, 6] (.ops 2 (opsOf Tryd.f21 2))) R)
noncomputable def scan_long.u3.f {α : Type} (k : Nat) (x0 : List UInt8) (x1 : Int) (x2 : Int) (kn : List UInt8 → Int → Int → Bool → M α) : M α :=
  kn x0 x1 x2 (decide (x2 = 4))
noncomputable def scan_long.u3.c (R : IC) : IC := (.seq (.cut [1, 5, 6, 7] (.ops 3 (opsOf Tryd.f21 3))) R)
noncomputable def scan_long.u4.f {α : Type} (k : Nat) (x0 : List UInt8) (x1 : Int) (kn : List UInt8 → Int → M α) (kx1 : Int → M α) : M α :=
  cond (decide (x1 < (x0.length : Int))) (
    idxStr x0 x1 fun c4 =>
    cond (decide (48 ≤ c4)) (
      idxStr x0 x1 fun c5 =>
      cond (decide (c5 ≤ 57)) (
        kn x0 (w64 (x1 + 1))) (
        kx1 x1)) (
      kx1 x1)) (
    kx1 x1)
noncomputable def scan_long.u4.c : IC := (.seq (.seq (.ops 4 (opsOf Tryd.f21 4)) (.cond (.tmp 24) .skip (.exit 1 [5]))) (.cut [1, 5] (.block 2 (.ops 5 (opsOf Tryd.f21 5)))))
noncomputable def scan_long.u5.l {α : Type} (k : Nat) (kx1 : Int → M α) : Nat → List UInt8 → Int → M α
  | 0, _, _ => fail
  | j + 1, x0, x1 =>
    scan_long.u4.f k x0 x1 (fun y0 y1 => scan_long.u5.l k kx1 j y0 y1) kx1
noncomputable abbrev scan_long.u5.f {α : Type} (k : Nat) (x0 : List UInt8) (x1 : Int) (x2 : Int) (x3 : Bool) (kx1 : Int → M α) : M α :=
  scan_long.u5.l k kx1 k x0 x1
noncomputable def scan_long.u5.c : IC := .loop [1, 5] scan_long.u4.c
noncomputable abbrev scan_long.u6.f {α : Type} (k : Nat) (x0 : List UInt8) (x1 : Int) (x2 : Int) (x3 : Bool) (kn : Int → M α) : M α :=
  scan_long.u5.f k x0 x1 x2 x3 (fun y0 => kn y0)
noncomputable def scan_long.u6.c : IC := .block 1 scan_long.u5.c
noncomputable def scan_long.u7.f {α : Type} (k : Nat) (x0 : List UInt8) (x1 : Int) (x2 : Int) (x3 : Bool) (kn : List UInt8 → Int → Bool → M α) : M α :=
  cond (decide (x2 = 2)) (
    kn x0 x1 (decide (x2 = 2))) (
    kn x0 x1 (decide (x2 = 3)))
noncomputable def scan_long.u7.c (R : IC) : IC := (.seq (.cut [1, 5, 27] (.seq (.ops 6 (opsOf Tryd.f21 6)) (.cond (.tmp 27) .skip (.ops 7 (opsOf Tryd.f21 7))))) R)
noncomputable def scan_long.u8.f {α : Type} (k : Nat) (x0 : List UInt8) (x1 : Int) (kn : List UInt8 → Int → M α) (kx3 : Int → M α) : M α :=
  cond (decide (x1 < (x0.length : Int))) (
    idxStr x0 x1 fun c4 =>
    cond (decide (c4 = 95)) (
      kn x0 (w64 (x1 + 1))) (
      idxStr x0 x1 fun c5 =>
      cond (decide (97 ≤ c5)) (
        idxStr x0 x1 fun c6 =>
        cond (decide (c6 ≤ 122)) (
          kn x0 (w64 (x1 + 1))) (
          idxStr x0 x1 fun c7 =>
          cond (decide (65 ≤ c7)) (
            idxStr x0 x1 fun c8 =>
            cond (decide (c8 ≤ 90)) (
              kn x0 (w64 (x1 + 1))) (
              idxStr x0 x1 fun c9 =>
              cond (decide (48 ≤ c9)) (
                idxStr x0 x1 fun c10 =>
                cond (decide (c10 ≤ 57)) (
                  kn x0 (w64 (x1 + 1))) (
                  kx3 x1)) (
                kx3 x1))) (
            idxStr x0 x1 fun c11 =>
            cond (decide (48 ≤ c11)) (
              idxStr x0 x1 fun c12 =>
              cond (decide (c12 ≤ 57)) (
                kn x0 (w64 (x1 + 1))) (
                kx3 x1)) (
              kx3 x1)))) (
        idxStr x0 x1 fun c13 =>
        cond (decide (65 ≤ c13)) (
          idxStr x0 x1 fun c14 =>
          cond (decide (c14 ≤ 90)) (
            kn x0 (w64 (x1 + 1))) (
            idxStr x0 x1 fun c15 =>
            cond (decide (48 ≤ c15)) (
              idxStr x0 x1 fun c16 =>
              cond (decide (c16 ≤ 57)) (
                kn x0 (w64 (x1 + 1))) (
                kx3 x1)) (
              kx3 x1))) (
          idxStr x0 x1 fun c17 =>
          cond (decide (48 ≤ c17)) (
            idxStr x0 x1 fun c18 =>
            cond (decide (c18 ≤ 57)) (
              kn x0 (w64 (x1 + 1))) (
              kx3 x1)) (
            kx3 x1))))) (
    kx3 x1)
noncomputable def scan_long.u8.c : IC := (.seq (.seq (.ops 8 (opsOf Tryd.f21 8)) (.cond (.tmp 75) .skip (.exit 3 [5]))) (.cut [1, 5] (.block 4 (.ops 9 (opsOf Tryd.f21 9)))))
noncomputable def scan_long.u9.l {α : Type} (k : Nat) (kx3 : Int → M α) : Nat → List UInt8 → Int → M α
  | 0, _, _ => fail
  | j + 1, x0, x1 =>
    scan_long.u8.f k x0 x1 (fun y0 y1 => scan_long.u9.l k kx3 j y0 y1) kx3
noncomputable abbrev scan_long.u9.f {α : Type} (k : Nat) (x0 : List UInt8) (x1 : Int) (x2 : Bool) (kx3 : Int → M α) : M α :=
  scan_long.u9.l k kx3 k x0 x1
noncomputable def scan_long.u9.c : IC := .loop [1, 5] scan_long.u8.c
noncomputable abbrev scan_long.u10.f {α : Type} (k : Nat) (x0 : List UInt8) (x1 : Int) (x2 : Bool) (kn : Int → M α) : M α :=
  scan_long.u9.f k x0 x1 x2 (fun y0 => kn y0)
noncomputable def scan_long.u10.c : IC := .block 3 scan_long.u9.c
noncomputable def scan_long.u11.f {α : Type} (k : Nat) (x0 : List UInt8) (x1 : Int) (x2 : Bool) (kn : Int → M α) : M α :=
  kn x1
noncomputable def scan_long.u11.c : IC := (.cut [5] .skip)
noncomputable abbrev scan_long.u12.f {α : Type} (k : Nat) (x0 : List UInt8) (x1 : Int) (x2 : Bool) (kn : Int → M α) : M α :=
  cond x2 (
    scan_long.u10.f k x0 x1 x2 kn) (
    scan_long.u11.f k x0 x1 x2 kn)
noncomputable def scan_long.u12.c : IC := .cond (.tmp 27) scan_long.u10.c scan_long.u11.c
noncomputable abbrev scan_long.u13.f {α : Type} (k : Nat) (x0 : List UInt8) (x1 : Int) (x2 : Int) (x3 : Bool) (kn : Int → M α) : M α :=
  scan_long.u7.f k x0 x1 x2 x3 (fun y0 y1 y2 => scan_long.u12.f k y0 y1 y2 kn)
noncomputable def scan_long.u13.c : IC := scan_long.u7.c scan_long.u12.c
noncomputable abbrev scan_long.u14.f {α : Type} (k : Nat) (x0 : List UInt8) (x1 : Int) (x2 : Int) (x3 : Bool) (kn : Int → M α) : M α :=
  cond x3 (
    scan_long.u6.f k x0 x1 x2 x3 kn) (
    scan_long.u13.f k x0 x1 x2 x3 kn)
noncomputable def scan_long.u14.c : IC := .cond (.tmp 7) scan_long.u6.c scan_long.u13.c
noncomputable abbrev scan_long.u15.f {α : Type} (k : Nat) (x0 : List UInt8) (x1 : Int) (x2 : Int) (kn : Int → M α) : M α :=
  scan_long.u3.f k x0 x1 x2 (fun y0 y1 y2 y3 => scan_long.u14.f k y0 y1 y2 y3 kn)
noncomputable def scan_long.u15.c : IC := scan_long.u3.c scan_long.u14.c
noncomputable abbrev scan_long.u16.f {α : Type} (k : Nat) (x0 : List UInt8) (x1 : Int) (x2 : Int) (kn : Int → M α) : M α :=
  scan_long.u15.f k x0 x1 x2 (fun y0 => kn y0)
noncomputable def scan_long.u16.c : IC := .block 0 scan_long.u15.c
noncomputable abbrev scan_long.u17.f {α : Type} (k : Nat) (x0 : Int) (x1 : List UInt8) (x2 : Int) (kn : Int → M α) : M α :=
  scan_long.u2.f k x0 x1 x2 (fun y0 y1 y2 => scan_long.u16.f k y0 y1 y2 kn)
noncomputable def scan_long.u17.c : IC := scan_long.u2.c scan_long.u16.c
noncomputable def scan_long.u18.f {α : Type} (k : Nat) (x0 : Int) (kr : Int → M α) : M α :=
  kr x0
noncomputable def scan_long.u18.c : IC := (.seq (.ops 10 (opsOf Tryd.f21 10)) (.ret [4]))
noncomputable abbrev scan_long.u19.f {α : Type} (k : Nat) (x0 : Int) (x1 : List UInt8) (x2 : Int) (kr : Int → M α) : M α :=
  scan_long.u17.f k x0 x1 x2 (fun y0 => scan_long.u18.f k y0 kr)
noncomputable def scan_long.u19.c : IC := (.seq scan_long.u17.c scan_long.u18.c)
noncomputable abbrev scan_long.u20.f {α : Type} (k : Nat) (x0 : Int) (x1 : List UInt8) (kr : Int → M α) : M α :=
  scan_long.u1.f k x0 x1 (fun y0 y1 y2 => scan_long.u19.f k y0 y1 y2 kr)
noncomputable def scan_long.u20.c : IC := scan_long.u1.c scan_long.u19.c
noncomputable def scan_long.f {α : Type} : Nat → Int → List UInt8 → (Int → M α) → M α
  | 0, _, _, _ => fail
  | k + 1, x0, x1, ret =>
    scan_long.u20.f k x0 x1 (fun y0 =>
      ret y0)

noncomputable def scan_value.u1.f {α : Type} (k : Nat) (x0 : List UInt8) (kn : List UInt8 → M α) (kr : Int → Bool → M α) : M α :=
  cond (decide (4 < (x0.length : Int))) (
    kr 0 false) (
    cond (decide (1 < (x0.length : Int))) (
      idxStr x0 0 fun c3 =>
      cond (decide (c3 = 48)) (
        kr 0 false) (
        kn x0)) (
      kn x0))
noncomputable def scan_value.u1.c (R : IC) : IC := (.seq (.ops 0 (opsOf Tryd.f22 0)) (.seq (.cut [0] (.seq (.ops 1 (opsOf Tryd.f22 1)) (.cond (.tmp 18) (.seq (.ops 2 (opsOf Tryd.f22 2)) (.ret [2, 3])) .skip))) R))
noncomputable def scan_value.u2.f {α : Type} (k : Nat) (x0 : List UInt8) (kn : List UInt8 → Int → M α) : M α :=
  kn x0 0
noncomputable def scan_value.u2.c (R : IC) : IC := (.seq (.cut [0, 4] (.ops 3 (opsOf Tryd.f22 3))) R)
noncomputable def scan_value.u3.f {α : Type} (k : Nat) (x0 : List UInt8) (x1 : Int) (kn : List UInt8 → Int → Int → Int → M α) : M α :=
  kn x0 x1 (x0.length : Int) 0
noncomputable def scan_value.u3.c (R : IC) : IC := (.seq (.cut [0, 4, 20, 21] (.ops 4 (opsOf Tryd.f22 4))) R)
noncomputable def scan_value.u4.f {α : Type} (k : Nat) (x0 : List UInt8) (x1 : Int) (x2 : Int) (x3 : Int) (kn : List UInt8 → Int → Int → Int → M α) (kx0 : Int → M α) : M α :=
  cond (decide (x3 < x2)) (
    idxStr x0 x3 fun c6 =>
    kn x0 (w64 ((w64 (10 * x1)) + (w64 (IntKind.wrap .u8 (c6 - 48))))) x2 (w64 (x3 + 1))) (
    kx0 x1)
noncomputable def scan_value.u4.c : IC := (.seq (.ops 5 (opsOf Tryd.f22 5)) (.seq (.cond (.tmp 22) .skip (.exit 0 [4])) (.seq (.block 1 (.seq (.ops 6 (opsOf Tryd.f22 6)) (.ops 7 (opsOf Tryd.f22 7)))) (.cut [0, 4, 20, 21] (.ops 8 (opsOf Tryd.f22 8))))))
noncomputable def scan_value.u5.l {α : Type} (k : Nat) (kx0 : Int → M α) : Nat → List UInt8 → Int → Int → Int → M α
  | 0, _, _, _, _ => fail
  | j + 1, x0, x1, x2, x3 =>
    scan_value.u4.f k x0 x1 x2 x3 (fun y0 y1 y2 y3 => scan_value.u5.l k kx0 j y0 y1 y2 y3) kx0
noncomputable abbrev scan_value.u5.f {α : Type} (k : Nat) (x0 : List UInt8) (x1 : Int) (x2 : Int) (x3 : Int) (kx0 : Int → M α) : M α :=
  scan_value.u5.l k kx0 k x0 x1 x2 x3
noncomputable def scan_value.u5.c : IC := .loop [0, 4, 20, 21] scan_value.u4.c
noncomputable abbrev scan_value.u6.f {α : Type} (k : Nat) (x0 : List UInt8) (x1 : Int) (x2 : Int) (x3 : Int) (kn : Int → M α) : M α :=
  scan_value.u5.f k x0 x1 x2 x3 (fun y0 => kn y0)
noncomputable def scan_value.u6.c : IC := .block 0 scan_value.u5.c
noncomputable abbrev scan_value.u7.f {α : Type} (k : Nat) (x0 : List UInt8) (x1 : Int) (kn : Int → M α) : M α :=
  scan_value.u3.f k x0 x1 (fun y0 y1 y2 y3 => scan_value.u6.f k y0 y1 y2 y3 kn)
noncomputable def scan_value.u7.c : IC := scan_value.u3.c scan_value.u6.c
noncomputable def scan_value.u8.f {α : Type} (k : Nat) (x0 : Int) (kr : Int → Bool → M α) : M α :=
  kr x0 (decide (x0 ≤ 9999))
noncomputable def scan_value.u8.c : IC := (.seq (.ops 9 (opsOf Tryd.f22 9)) (.ret [2, 3]))
noncomputable abbrev scan_value.u9.f {α : Type} (k : Nat) (x0 : List UInt8) (x1 : Int) (kr : Int → Bool → M α) : M α :=
  scan_value.u7.f k x0 x1 (fun y0 => scan_value.u8.f k y0 kr)
noncomputable def scan_value.u9.c : IC := (.seq scan_value.u7.c scan_value.u8.c)
noncomputable abbrev scan_value.u10.f {α : Type} (k : Nat) (x0 : List UInt8) (kr : Int → Bool → M α) : M α :=
  scan_value.u2.f k x0 (fun y0 y1 => scan_value.u9.f k y0 y1 kr)
noncomputable def scan_value.u10.c : IC := scan_value.u2.c scan_value.u9.c
noncomputable abbrev scan_value.u11.f {α : Type} (k : Nat) (x0 : List UInt8) (kr : Int → Bool → M α) : M α :=
  scan_value.u1.f k x0 (fun y0 => scan_value.u10.f k y0 kr) kr
noncomputable def scan_value.u11.c : IC := scan_value.u1.c scan_value.u10.c
noncomputable def scan_value.f {α : Type} : Nat → List UInt8 → (Int → Bool → M α) → M α
  | 0, _, _ => fail
  | k + 1, x0, ret =>
    scan_value.u11.f k x0 (fun y0 y1 =>
      ret y0 y1)

noncomputable def scan_token.u1.f {α : Type} (k : Nat) (x0 : List UInt8) (x1 : Int) (kr : Ad → Int → M α) : M α :=
  new [.int .i64 0, .int .i64 0, .str [], .int .i64 0] fun x4 =>
  idxStr x0 x1 fun c5 =>
  scan_kind.f k c5 fun r6 =>
  new [.int .i64 0, .int .i64 0, .str [], .int .i64 0] fun t7 =>
  st1 (t7.add 0) (.int .i64 r6) <|
  st1 (t7.add 1) (.int .i64 x1) <|
  st1 (t7.add 2) (.str []) <|
  st1 (t7.add 3) (.int .i64 0) <|
  ldI .i64 ((t7.add 0).add 0) fun x8 =>
  cutStr x0 (some x1) none fun x9 =>
  scan_long.f k x8 x9 fun r10 =>
  cutStr x0 (some x1) (some (w64 (x1 + r10))) fun x11 =>
  st1 ((t7.add 2).add 0) (.str x11) <|
  ldI .i64 ((t7.add 0).add 0) fun x12 =>
  cond (decide (x12 = 0)) (
    ldI .i64 (t7.add 0) fun x13 =>
    ldI .i64 (t7.add 1) fun x14 =>
    ldStr (t7.add 2) fun x15 =>
    ldI .i64 (t7.add 3) fun x16 =>
    st1 (x4.add 0) (.int .i64 x13) <|
    st1 (x4.add 1) (.int .i64 x14) <|
    st1 (x4.add 2) (.str x15) <|
    st1 (x4.add 3) (.int .i64 x16) <|
    kr x4 3) (
    cond (decide (x12 = 2)) (
      cond (decide (x12 = 2)) (
        ldStr ((t7.add 2).add 0) fun x17 =>
        cond (decide (8 < (x17.length : Int))) (
          ldI .i64 (t7.add 0) fun x18 =>
          ldI .i64 (t7.add 1) fun x19 =>
          ldStr (t7.add 2) fun x20 =>
          ldI .i64 (t7.add 3) fun x21 =>
          st1 (x4.add 0) (.int .i64 x18) <|
          st1 (x4.add 1) (.int .i64 x19) <|
          st1 (x4.add 2) (.str x20) <|
          st1 (x4.add 3) (.int .i64 x21) <|
          kr x4 5) (
          ldI .i64 (t7.add 0) fun x22 =>
          ldI .i64 (t7.add 1) fun x23 =>
          ldStr (t7.add 2) fun x24 =>
          ldI .i64 (t7.add 3) fun x25 =>
          st1 (x4.add 0) (.int .i64 x22) <|
          st1 (x4.add 1) (.int .i64 x23) <|
          st1 (x4.add 2) (.str x24) <|
          st1 (x4.add 3) (.int .i64 x25) <|
          kr x4 0)) (
        cond (decide (x12 = 4)) (
          ldStr ((t7.add 2).add 0) fun x26 =>
          scan_value.f k x26 fun r27 r28 =>
          cond (!r28) (
            ldI .i64 (t7.add 0) fun x29 =>
            ldI .i64 (t7.add 1) fun x30 =>
            ldStr (t7.add 2) fun x31 =>
            ldI .i64 (t7.add 3) fun x32 =>
            st1 (x4.add 0) (.int .i64 x29) <|
            st1 (x4.add 1) (.int .i64 x30) <|
            st1 (x4.add 2) (.str x31) <|
            st1 (x4.add 3) (.int .i64 x32) <|
            kr x4 4) (
            st1 ((t7.add 3).add 0) (.int .i64 r27) <|
            ldI .i64 (t7.add 0) fun x33 =>
            ldI .i64 (t7.add 1) fun x34 =>
            ldStr (t7.add 2) fun x35 =>
            ldI .i64 (t7.add 3) fun x36 =>
            st1 (x4.add 0) (.int .i64 x33) <|
            st1 (x4.add 1) (.int .i64 x34) <|
            st1 (x4.add 2) (.str x35) <|
            st1 (x4.add 3) (.int .i64 x36) <|
            kr x4 0)) (
          ldI .i64 (t7.add 0) fun x37 =>
          ldI .i64 (t7.add 1) fun x38 =>
          ldStr (t7.add 2) fun x39 =>
          ldI .i64 (t7.add 3) fun x40 =>
          st1 (x4.add 0) (.int .i64 x37) <|
          st1 (x4.add 1) (.int .i64 x38) <|
          st1 (x4.add 2) (.str x39) <|
          st1 (x4.add 3) (.int .i64 x40) <|
          kr x4 0))) (
      cond (decide (x12 = 3)) (
        ldStr ((t7.add 2).add 0) fun x41 =>
        cond (decide (8 < (x41.length : Int))) (
          ldI .i64 (t7.add 0) fun x42 =>
          ldI .i64 (t7.add 1) fun x43 =>
          ldStr (t7.add 2) fun x44 =>
          ldI .i64 (t7.add 3) fun x45 =>
          st1 (x4.add 0) (.int .i64 x42) <|
          st1 (x4.add 1) (.int .i64 x43) <|
          st1 (x4.add 2) (.str x44) <|
          st1 (x4.add 3) (.int .i64 x45) <|
          kr x4 5) (
          ldI .i64 (t7.add 0) fun x46 =>
          ldI .i64 (t7.add 1) fun x47 =>
          ldStr (t7.add 2) fun x48 =>
          ldI .i64 (t7.add 3) fun x49 =>
          st1 (x4.add 0) (.int .i64 x46) <|
          st1 (x4.add 1) (.int .i64 x47) <|
          st1 (x4.add 2) (.str x48) <|
          st1 (x4.add 3) (.int .i64 x49) <|
          kr x4 0)) (
        cond (decide (x12 = 4)) (
          ldStr ((t7.add 2).add 0) fun x50 =>
          scan_value.f k x50 fun r51 r52 =>
          cond (!r52) (
            ldI .i64 (t7.add 0) fun x53 =>
            ldI .i64 (t7.add 1) fun x54 =>
            ldStr (t7.add 2) fun x55 =>
            ldI .i64 (t7.add 3) fun x56 =>
            st1 (x4.add 0) (.int .i64 x53) <|
            st1 (x4.add 1) (.int .i64 x54) <|
            st1 (x4.add 2) (.str x55) <|
            st1 (x4.add 3) (.int .i64 x56) <|
            kr x4 4) (
            st1 ((t7.add 3).add 0) (.int .i64 r51) <|
            ldI .i64 (t7.add 0) fun x57 =>
            ldI .i64 (t7.add 1) fun x58 =>
            ldStr (t7.add 2) fun x59 =>
            ldI .i64 (t7.add 3) fun x60 =>
            st1 (x4.add 0) (.int .i64 x57) <|
            st1 (x4.add 1) (.int .i64 x58) <|
            st1 (x4.add 2) (.str x59) <|
            st1 (x4.add 3) (.int .i64 x60) <|
            kr x4 0)) (
          ldI .i64 (t7.add 0) fun x61 =>
          ldI .i64 (t7.add 1) fun x62 =>
          ldStr (t7.add 2) fun x63 =>
          ldI .i64 (t7.add 3) fun x64 =>
          st1 (x4.add 0) (.int .i64 x61) <|
          st1 (x4.add 1) (.int .i64 x62) <|
          st1 (x4.add 2) (.str x63) <|
          st1 (x4.add 3) (.int .i64 x64) <|
          kr x4 0))))
noncomputable def scan_token.u1.c : IC := (.seq (.ops 0 (opsOf Tryd.f16 0)) (.seq (.ops 1 (opsOf Tryd.f16 1)) (.seq (.drawn 2 (opsOf Tryd.f16 2) true [.op 0, .op 1, .op 2, .op 3, .op 4, .op 5, .op 6, .op 7, .op 8, .op 9, .op 10, .op 11, .op 12]) (.seq (.seq (.ops 3 (opsOf Tryd.f16 3)) (.block 0 (.seq (.ops 4 (opsOf Tryd.f16 4)) (.cond (.tmp 29) (.seq (.ops 5 (opsOf Tryd.f16 5)) (.ret [4, 5])) (.seq (.seq (.ops 6 (opsOf Tryd.f16 6)) (.cond (.tmp 32) .skip (.ops 7 (opsOf Tryd.f16 7)))) (.cond (.tmp 32) (.seq (.ops 8 (opsOf Tryd.f16 8)) (.cond (.tmp 38) (.seq (.ops 9 (opsOf Tryd.f16 9)) (.ret [4, 5])) .skip)) (.seq (.ops 10 (opsOf Tryd.f16 10)) (.cond (.tmp 40) (.seq (.ops 11 (opsOf Tryd.f16 11)) (.seq (.seq (.ops 12 (opsOf Tryd.f16 12)) (.cond (.tmp 49) (.seq (.ops 13 (opsOf Tryd.f16 13)) (.ret [4, 5])) .skip)) (.ops 14 (opsOf Tryd.f16 14)))) .skip)))))))) (.seq (.ops 15 (opsOf Tryd.f16 15)) (.ret [4, 5]))))))
noncomputable def scan_token.f {α : Type} : Nat → List UInt8 → Int → (Int → Int → List UInt8 → Int → Int → M α) → M α
  | 0, _, _, _ => fail
  | k + 1, x0, x1, ret =>
    scan_token.u1.f k x0 x1 (fun y0 y1 =>
      ldI .i64 (y0.add 0) fun o501 =>
      ldI .i64 (y0.add 1) fun o502 =>
      ldStr (y0.add 2) fun o503 =>
      ldI .i64 (y0.add 3) fun o504 =>
      ret o501 o502 o503 o504 y1)

noncomputable def scan_All.u1.f {α : Type} (k : Nat) (x0 : List UInt8) (kn : List UInt8 → Sl → M α) (kr : Sl → Ad → M α) : M α :=
  cond (decide (262144 < (x0.length : Int))) (
    new [.int .i64 262144, .int .i64 2] fun x3 =>
    kr Sl.nil x3) (
    kn x0 Sl.nil)
noncomputable def scan_All.u1.c (R : IC) : IC := (.seq (.ops 0 (opsOf Tryd.f11 0)) (.seq (.seq (.ops 1 (opsOf Tryd.f11 1)) (.cond (.tmp 12) (.seq (.ops 2 (opsOf Tryd.f11 2)) (.ret [2, 3])) .skip)) (.seq (.cut [0, 4] (.ops 3 (opsOf Tryd.f11 3))) R)))
noncomputable def scan_All.u2.f {α : Type} (k : Nat) (x0 : List UInt8) (x1 : Sl) (kn : List UInt8 → Sl → Int → M α) : M α :=
  kn x0 x1 0
noncomputable def scan_All.u2.c (R : IC) : IC := (.seq (.cut [0, 4, 5] (.ops 4 (opsOf Tryd.f11 4))) R)
noncomputable def scan_All.u3.f {α : Type} (k : Nat) (x0 : List UInt8) (x1 : Sl) (x2 : Int) (kn : List UInt8 → Sl → Int → M α) (kr : Sl → Ad → M α) (kx0 : List UInt8 → Sl → M α) : M α :=
  cond (decide (x2 < (x0.length : Int))) (
    idxStr x0 x2 fun c5 =>
    cond (decide (c5 = 32)) (
      kn x0 x1 (w64 (x2 + 1))) (
      cond (decide (c5 = 9)) (
        kn x0 x1 (w64 (x2 + 1))) (
        cond (decide (c5 = 35)) (
          cutStr x0 (some x2) none fun x6 =>
          strings_IndexByte.f k x6 10 fun r7 =>
          cond (decide (r7 < 0)) (
            kn x0 x1 (w64 (x2 + (w64 ((x0.length : Int) - x2))))) (
            kn x0 x1 (w64 (x2 + r7)))) (
          scan_token.f k x0 x2 fun r8 r9 r10 r11 r12 =>
          new [.int .i64 0, .int .i64 0, .str [], .int .i64 0] fun t13 =>
          st1 (t13.add 0) (.int .i64 r8) <|
          st1 (t13.add 1) (.int .i64 r9) <|
          st1 (t13.add 2) (.str r10) <|
          st1 (t13.add 3) (.int .i64 r11) <|
          cond (!(decide (r12 = 0))) (
            new [.int .i64 x2, .int .i64 r12] fun x14 =>
            kr Sl.nil x14) (
            ldI .i64 (t13.add 0) fun x15 =>
            ldI .i64 (t13.add 1) fun x16 =>
            ldStr (t13.add 2) fun x17 =>
            ldI .i64 (t13.add 3) fun x18 =>
            new [.int .i64 x15, .int .i64 x16, .str x17, .int .i64 x18] fun r19 =>
            appRow x1 4 40 (⟨some r19, 1, 1, none⟩ : Sl) fun x20 =>
            ldStr ((t13.add 2).add 0) fun x21 =>
            kn x0 x20 (w64 (x2 + (x21.length : Int)))))))) (
    kx0 x0 x1)
noncomputable def scan_All.u3.c : IC := (.seq (.seq (.ops 5 (opsOf Tryd.f11 5)) (.cond (.tmp 19) .skip (.exit 0 [0, 4]))) (.cut [0, 4, 5] (.block 1 (.seq (.ops 6 (opsOf Tryd.f11 6)) (.block 2 (.seq (.ops 12 (opsOf Tryd.f11 12)) (.cond (.tmp 45) (.ops 13 (opsOf Tryd.f11 13)) (.seq (.ops 14 (opsOf Tryd.f11 14)) (.cond (.tmp 54) (.seq (.ops 15 (opsOf Tryd.f11 15)) (.seq (.seq (.ops 16 (opsOf Tryd.f11 16)) (.cond (.tmp 62) (.ops 17 (opsOf Tryd.f11 17)) .skip)) (.ops 18 (opsOf Tryd.f11 18)))) (.seq (.ops 7 (opsOf Tryd.f11 7)) (.seq (.seq (.ops 8 (opsOf Tryd.f11 8)) (.cond (.tmp 30) (.seq (.ops 9 (opsOf Tryd.f11 9)) (.ret [2, 3])) .skip)) (.seq (.ops 10 (opsOf Tryd.f11 10)) (.ops 11 (opsOf Tryd.f11 11))))))))))))))
noncomputable def scan_All.u4.l {α : Type} (k : Nat) (kr : Sl → Ad → M α) (kx0 : List UInt8 → Sl → M α) : Nat → List UInt8 → Sl → Int → M α
  | 0, _, _, _ => fail
  | j + 1, x0, x1, x2 =>
    scan_All.u3.f k x0 x1 x2 (fun y0 y1 y2 => scan_All.u4.l k kr kx0 j y0 y1 y2) kr kx0
noncomputable abbrev scan_All.u4.f {α : Type} (k : Nat) (x0 : List UInt8) (x1 : Sl) (x2 : Int) (kr : Sl → Ad → M α) (kx0 : List UInt8 → Sl → M α) : M α :=
  scan_All.u4.l k kr kx0 k x0 x1 x2
noncomputable def scan_All.u4.c : IC := .loop [0, 4, 5] scan_All.u3.c
noncomputable abbrev scan_All.u5.f {α : Type} (k : Nat) (x0 : List UInt8) (x1 : Sl) (x2 : Int) (kn : List UInt8 → Sl → M α) (kr : Sl → Ad → M α) : M α :=
  scan_All.u4.f k x0 x1 x2 kr (fun y0 y1 => kn y0 y1)
noncomputable def scan_All.u5.c : IC := .block 0 scan_All.u4.c
noncomputable abbrev scan_All.u6.f {α : Type} (k : Nat) (x0 : List UInt8) (x1 : Sl) (kn : List UInt8 → Sl → M α) (kr : Sl → Ad → M α) : M α :=
  scan_All.u2.f k x0 x1 (fun y0 y1 y2 => scan_All.u5.f k y0 y1 y2 kn kr)
noncomputable def scan_All.u6.c : IC := scan_All.u2.c scan_All.u5.c
noncomputable def scan_All.u7.f {α : Type} (k : Nat) (x0 : List UInt8) (x1 : Sl) (kr : Sl → M α) : M α :=
  new [.int .i64 0, .int .i64 (x0.length : Int), .str [], .int .i64 0] fun r4 =>
  appRow x1 4 40 (⟨some r4, 1, 1, none⟩ : Sl) fun x5 =>
  kr x5
noncomputable def scan_All.u7.c : IC := (.seq (.ops 19 (opsOf Tryd.f11 19)) (.ret [2, 3]))
noncomputable abbrev scan_All.u8.f {α : Type} (k : Nat) (x0 : List UInt8) (x1 : Sl) (kr : Sl → V → M α) : M α :=
  scan_All.u6.f k x0 x1 (fun y0 y1 => scan_All.u7.f k y0 y1 (fun y0 => kr y0 .nilIface)) (fun y0 y1 => kr y0 (.iface 42 (.ptr (some y1))))
noncomputable def scan_All.u8.c : IC := (.seq scan_All.u6.c scan_All.u7.c)
noncomputable abbrev scan_All.u9.f {α : Type} (k : Nat) (x0 : List UInt8) (kr : Sl → V → M α) : M α :=
  scan_All.u1.f k x0 (fun y0 y1 => scan_All.u8.f k y0 y1 kr) (fun y0 y1 => kr y0 (.iface 42 (.ptr (some y1))))
noncomputable def scan_All.u9.c : IC := scan_All.u1.c scan_All.u8.c
noncomputable def scan_All.f {α : Type} : Nat → List UInt8 → (Sl → V → M α) → M α
  | 0, _, _ => fail
  | k + 1, x0, ret =>
    scan_All.u9.f k x0 (fun y0 y1 =>
      ret y0 y1)

noncomputable def bailifflaw02_fault.u1.f {α : Type} (k : Nat) (x0 : V) (kr : Int → Int → M α) : M α :=
  asNil x0 fun b3 =>
  cond (b3) (
    kr 0 0) (
    new [.ptr none] fun f4 =>
    errors_As.f k x0 (.iface 49 (.ptr (some f4))) fun r5 =>
    cond (!r5) (
      kr (-1) 0) (
      ldP (f4.add 0) fun x6 =>
      cond (x6.isNone) (
        kr (-1) 0) (
        ldP (f4.add 0) fun x7 =>
        asSome x7 fun p8 =>
        ldI .i64 ((p8.add 0).add 0) fun x9 =>
        ldP (f4.add 0) fun x10 =>
        asSome x10 fun p11 =>
        ldI .i64 ((p11.add 1).add 0) fun x12 =>
        kr x9 x12)))
noncomputable def bailifflaw02_fault.u1.c : IC := (.seq (.ops 0 (opsOf Tryd.f13 0)) (.seq (.seq (.ops 1 (opsOf Tryd.f13 1)) (.cond (.tmp 7) (.seq (.ops 2 (opsOf Tryd.f13 2)) (.ret [2, 3])) .skip)) (.seq (.ops 3 (opsOf Tryd.f13 3)) (.seq (.ops 4 (opsOf Tryd.f13 4)) (.seq (.seq (.ops 5 (opsOf Tryd.f13 5)) (.cond (.tmp 16) (.seq (.ops 6 (opsOf Tryd.f13 6)) (.ret [2, 3])) .skip)) (.seq (.drawn 7 (opsOf Tryd.f13 7) true [.op 0, .op 1, .op 2, .op 3, .op 4, .op 5, .op 6, .op 7, .op 8, .op 9]) (.ret [2, 3])))))))
noncomputable def bailifflaw02_fault.f {α : Type} : Nat → V → (Int → Int → M α) → M α
  | 0, _, _ => fail
  | k + 1, x0, ret =>
    bailifflaw02_fault.u1.f k x0 (fun y0 y1 =>
      ret y0 y1)

noncomputable def bailifflaw02_shown.u1.f {α : Type} (k : Nat) (kr : Bool → M α) : M α :=
  scan_All.f k [109, 117, 32, 88, 49, 46, 112, 50, 32, 49, 50] fun r2 r3 =>
  scan_All.f k [97, 32, 95] fun r4 r5 =>
  bailifflaw02_fault.f k r5 fun r6 r7 =>
  asNil r3 fun b8 =>
  cond (b8) (
    cond (decide ((r2.len : Int) = 6)) (
      idxSl r2 0 4 fun a9 =>
      ldI .i64 (a9.add 0) fun x10 =>
      ldI .i64 (a9.add 1) fun x11 =>
      ldStr (a9.add 2) fun x12 =>
      ldI .i64 (a9.add 3) fun x13 =>
      cond ((decide (x10 = 2) && (decide (x11 = 0) && (decide (x12 = [109, 117]) && (decide (x13 = 0) && true))))) (
        idxSl r2 1 4 fun a14 =>
        ldI .i64 (a14.add 0) fun x15 =>
        ldI .i64 (a14.add 1) fun x16 =>
        ldStr (a14.add 2) fun x17 =>
        ldI .i64 (a14.add 3) fun x18 =>
        cond ((decide (x15 = 3) && (decide (x16 = 3) && (decide (x17 = [88, 49]) && (decide (x18 = 0) && true))))) (
          idxSl r2 2 4 fun a19 =>
          ldI .i64 (a19.add 0) fun x20 =>
          ldI .i64 (a19.add 1) fun x21 =>
          ldStr (a19.add 2) fun x22 =>
          ldI .i64 (a19.add 3) fun x23 =>
          cond ((decide (x20 = 5) && (decide (x21 = 5) && (decide (x22 = [46]) && (decide (x23 = 0) && true))))) (
            idxSl r2 4 4 fun a24 =>
            ldI .i64 (a24.add 0) fun x25 =>
            ldI .i64 (a24.add 1) fun x26 =>
            ldStr (a24.add 2) fun x27 =>
            ldI .i64 (a24.add 3) fun x28 =>
            cond ((decide (x25 = 4) && (decide (x26 = 9) && (decide (x27 = [49, 50]) && (decide (x28 = 12) && true))))) (
              idxSl r2 5 4 fun a29 =>
              ldI .i64 (a29.add 0) fun x30 =>
              ldI .i64 (a29.add 1) fun x31 =>
              ldStr (a29.add 2) fun x32 =>
              ldI .i64 (a29.add 3) fun x33 =>
              cond ((decide (x30 = 0) && (decide (x31 = 11) && (decide (x32 = []) && (decide (x33 = 0) && true))))) (
                cond (decide (r6 = 2)) (
                  kr (decide (r7 = 3))) (
                  kr false)) (
                kr false)) (
              kr false)) (
            kr false)) (
          kr false)) (
        kr false)) (
      kr false)) (
    kr false)
noncomputable def bailifflaw02_shown.u1.c : IC := (.seq (.ops 0 (opsOf Tryd.f10 0)) (.seq (.ops 1 (opsOf Tryd.f10 1)) (.seq (.ops 2 (opsOf Tryd.f10 2)) (.seq (.ops 3 (opsOf Tryd.f10 3)) (.seq (.ops 4 (opsOf Tryd.f10 4)) (.ret [0]))))))
noncomputable def bailifflaw02_shown.f {α : Type} : Nat → (Bool → M α) → M α
  | 0, _ => fail
  | k + 1, ret =>
    bailifflaw02_shown.u1.f k (fun y0 =>
      ret y0)

noncomputable def bailiffref02_small.u1.f {α : Type} (k : Nat) (x0 : Int) (kr : Bool → M α) : M α :=
  cond (decide (97 ≤ x0)) (
    kr (decide (x0 ≤ 122))) (
    kr false)
noncomputable def bailiffref02_small.u1.c : IC := (.seq (.ops 0 (opsOf Tryd.f23 0)) (.seq (.ops 1 (opsOf Tryd.f23 1)) (.ret [2])))
noncomputable def bailiffref02_small.f {α : Type} : Nat → Int → (Bool → M α) → M α
  | 0, _, _ => fail
  | k + 1, x0, ret =>
    bailiffref02_small.u1.f k x0 (fun y0 =>
      ret y0)

noncomputable def bailiffref02_capital.u1.f {α : Type} (k : Nat) (x0 : Int) (kr : Bool → M α) : M α :=
  cond (decide (65 ≤ x0)) (
    kr (decide (x0 ≤ 90))) (
    kr false)
noncomputable def bailiffref02_capital.u1.c : IC := (.seq (.ops 0 (opsOf Tryd.f24 0)) (.seq (.ops 1 (opsOf Tryd.f24 1)) (.ret [2])))
noncomputable def bailiffref02_capital.f {α : Type} : Nat → Int → (Bool → M α) → M α
  | 0, _, _ => fail
  | k + 1, x0, ret =>
    bailiffref02_capital.u1.f k x0 (fun y0 =>
      ret y0)

noncomputable def bailiffref02_digit.u1.f {α : Type} (k : Nat) (x0 : Int) (kr : Bool → M α) : M α :=
  cond (decide (48 ≤ x0)) (
    kr (decide (x0 ≤ 57))) (
    kr false)
noncomputable def bailiffref02_digit.u1.c : IC := (.seq (.ops 0 (opsOf Tryd.f25 0)) (.seq (.ops 1 (opsOf Tryd.f25 1)) (.ret [2])))
noncomputable def bailiffref02_digit.f {α : Type} : Nat → Int → (Bool → M α) → M α
  | 0, _, _ => fail
  | k + 1, x0, ret =>
    bailiffref02_digit.u1.f k x0 (fun y0 =>
      ret y0)

noncomputable def bailiffref02_inner.u1.f {α : Type} (k : Nat) (x0 : Int) (kr : Bool → M α) : M α :=
  bailiffref02_small.f k x0 fun r3 =>
  bailiffref02_capital.f k x0 fun r4 =>
  bailiffref02_digit.f k x0 fun r5 =>
  cond (r3) (
    kr true) (
    cond (r4) (
      kr true) (
      cond (r5) (
        kr true) (
        kr (decide (x0 = 95)))))
noncomputable def bailiffref02_inner.u1.c : IC := (.seq (.ops 0 (opsOf Tryd.f33 0)) (.seq (.ops 1 (opsOf Tryd.f33 1)) (.seq (.ops 2 (opsOf Tryd.f33 2)) (.seq (.ops 3 (opsOf Tryd.f33 3)) (.seq (.ops 4 (opsOf Tryd.f33 4)) (.ret [2]))))))
noncomputable def bailiffref02_inner.f {α : Type} : Nat → Int → (Bool → M α) → M α
  | 0, _, _ => fail
  | k + 1, x0, ret =>
    bailiffref02_inner.u1.f k x0 (fun y0 =>
      ret y0)

noncomputable def bailiffref02_name.u1.f {α : Type} (k : Nat) (x0 : List UInt8) (x1 : Int) (kn : List UInt8 → Int → M α) : M α :=
  kn x0 x1
noncomputable def bailiffref02_name.u1.c (R : IC) : IC := (.seq (.ops 0 (opsOf Tryd.f26 0)) (.seq (.cut [0, 5] (.ops 1 (opsOf Tryd.f26 1))) R))
noncomputable def bailiffref02_name.u2.f {α : Type} (k : Nat) (x0 : List UInt8) (x1 : Int) (kn : List UInt8 → Int → M α) (kx0 : Int → M α) : M α :=
  cond (decide (x1 < (x0.length : Int))) (
    idxStr x0 x1 fun c4 =>
    bailiffref02_inner.f k c4 fun r5 =>
    cond (!r5) (
      kx0 x1) (
      kn x0 (w64 (x1 + 1)))) (
    kx0 x1)
noncomputable def bailiffref02_name.u2.c : IC := (.seq (.seq (.ops 2 (opsOf Tryd.f26 2)) (.cond (.tmp 11) .skip (.exit 0 [5]))) (.cut [0, 5] (.block 1 (.seq (.ops 3 (opsOf Tryd.f26 3)) (.seq (.seq (.ops 4 (opsOf Tryd.f26 4)) (.cond (.tmp 17) (.exit 0 [5]) .skip)) (.ops 5 (opsOf Tryd.f26 5)))))))
noncomputable def bailiffref02_name.u3.l {α : Type} (k : Nat) (kx0 : Int → M α) : Nat → List UInt8 → Int → M α
  | 0, _, _ => fail
  | j + 1, x0, x1 =>
    bailiffref02_name.u2.f k x0 x1 (fun y0 y1 => bailiffref02_name.u3.l k kx0 j y0 y1) kx0
noncomputable abbrev bailiffref02_name.u3.f {α : Type} (k : Nat) (x0 : List UInt8) (x1 : Int) (kx0 : Int → M α) : M α :=
  bailiffref02_name.u3.l k kx0 k x0 x1
noncomputable def bailiffref02_name.u3.c : IC := .loop [0, 5] bailiffref02_name.u2.c
noncomputable abbrev bailiffref02_name.u4.f {α : Type} (k : Nat) (x0 : List UInt8) (x1 : Int) (kn : Int → M α) : M α :=
  bailiffref02_name.u3.f k x0 x1 (fun y0 => kn y0)
noncomputable def bailiffref02_name.u4.c : IC := .block 0 bailiffref02_name.u3.c
noncomputable def bailiffref02_name.u5.f {α : Type} (k : Nat) (x0 : Int) (kr : Int → M α) : M α :=
  kr x0
noncomputable def bailiffref02_name.u5.c : IC := (.seq (.ops 6 (opsOf Tryd.f26 6)) (.ret [4]))
noncomputable abbrev bailiffref02_name.u6.f {α : Type} (k : Nat) (x0 : List UInt8) (x1 : Int) (kr : Int → M α) : M α :=
  bailiffref02_name.u4.f k x0 x1 (fun y0 => bailiffref02_name.u5.f k y0 kr)
noncomputable def bailiffref02_name.u6.c : IC := (.seq bailiffref02_name.u4.c bailiffref02_name.u5.c)
noncomputable abbrev bailiffref02_name.u7.f {α : Type} (k : Nat) (x0 : List UInt8) (x1 : Int) (kr : Int → M α) : M α :=
  bailiffref02_name.u1.f k x0 x1 (fun y0 y1 => bailiffref02_name.u6.f k y0 y1 kr)
noncomputable def bailiffref02_name.u7.c : IC := bailiffref02_name.u1.c bailiffref02_name.u6.c
noncomputable def bailiffref02_name.f {α : Type} : Nat → List UInt8 → Int → (Int → M α) → M α
  | 0, _, _, _ => fail
  | k + 1, x0, x1, ret =>
    bailiffref02_name.u7.f k x0 x1 (fun y0 =>
      ret y0)

noncomputable def bailiffref02_number.u1.f {α : Type} (k : Nat) (x0 : List UInt8) (x1 : Int) (kn : List UInt8 → Int → Int → M α) : M α :=
  kn x0 x1 0
noncomputable def bailiffref02_number.u1.c (R : IC) : IC := (.seq (.ops 0 (opsOf Tryd.f27 0)) (.seq (.ops 1 (opsOf Tryd.f27 1)) (.seq (.cut [0, 6, 7] (.ops 2 (opsOf Tryd.f27 2))) R)))
noncomputable def bailiffref02_number.u2.f {α : Type} (k : Nat) (x0 : List UInt8) (x1 : Int) (x2 : Int) (kn : List UInt8 → Int → Int → M α) (kx0 : Int → Int → M α) : M α :=
  cond (decide (x1 < (x0.length : Int))) (
    idxStr x0 x1 fun c5 =>
    bailiffref02_digit.f k c5 fun r6 =>
    cond (!r6) (
      kx0 x1 x2) (
      idxStr x0 x1 fun c7 =>
      kn x0 (w64 (x1 + 1)) (if 10000 < w64 ((w64 (10 * x2)) + (w64 (IntKind.wrap .u8 (c7 - 48)))) then 10000 else w64 ((w64 (10 * x2)) + (w64 (IntKind.wrap .u8 (c7 - 48))))))) (
    kx0 x1 x2)
noncomputable def bailiffref02_number.u2.c : IC := (.seq (.seq (.ops 3 (opsOf Tryd.f27 3)) (.cond (.tmp 13) .skip (.exit 0 [6, 7]))) (.cut [0, 6, 7] (.block 1 (.seq (.ops 4 (opsOf Tryd.f27 4)) (.seq (.seq (.ops 5 (opsOf Tryd.f27 5)) (.cond (.tmp 19) (.exit 0 [6, 7]) .skip)) (.seq (.ops 6 (opsOf Tryd.f27 6)) (.ops 7 (opsOf Tryd.f27 7))))))))
noncomputable def bailiffref02_number.u3.l {α : Type} (k : Nat) (kx0 : Int → Int → M α) : Nat → List UInt8 → Int → Int → M α
  | 0, _, _, _ => fail
  | j + 1, x0, x1, x2 =>
    bailiffref02_number.u2.f k x0 x1 x2 (fun y0 y1 y2 => bailiffref02_number.u3.l k kx0 j y0 y1 y2) kx0
noncomputable abbrev bailiffref02_number.u3.f {α : Type} (k : Nat) (x0 : List UInt8) (x1 : Int) (x2 : Int) (kx0 : Int → Int → M α) : M α :=
  bailiffref02_number.u3.l k kx0 k x0 x1 x2
noncomputable def bailiffref02_number.u3.c : IC := .loop [0, 6, 7] bailiffref02_number.u2.c
noncomputable abbrev bailiffref02_number.u4.f {α : Type} (k : Nat) (x0 : List UInt8) (x1 : Int) (x2 : Int) (kn : Int → Int → M α) : M α :=
  bailiffref02_number.u3.f k x0 x1 x2 (fun y0 y1 => kn y0 y1)
noncomputable def bailiffref02_number.u4.c : IC := .block 0 bailiffref02_number.u3.c
noncomputable def bailiffref02_number.u5.f {α : Type} (k : Nat) (x0 : Int) (x1 : Int) (kr : Int → Int → M α) : M α :=
  kr x0 x1
noncomputable def bailiffref02_number.u5.c : IC := (.seq (.ops 8 (opsOf Tryd.f27 8)) (.ret [4, 5]))
noncomputable abbrev bailiffref02_number.u6.f {α : Type} (k : Nat) (x0 : List UInt8) (x1 : Int) (x2 : Int) (kr : Int → Int → M α) : M α :=
  bailiffref02_number.u4.f k x0 x1 x2 (fun y0 y1 => bailiffref02_number.u5.f k y0 y1 kr)
noncomputable def bailiffref02_number.u6.c : IC := (.seq bailiffref02_number.u4.c bailiffref02_number.u5.c)
noncomputable abbrev bailiffref02_number.u7.f {α : Type} (k : Nat) (x0 : List UInt8) (x1 : Int) (kr : Int → Int → M α) : M α :=
  bailiffref02_number.u1.f k x0 x1 (fun y0 y1 y2 => bailiffref02_number.u6.f k y0 y1 y2 kr)
noncomputable def bailiffref02_number.u7.c : IC := bailiffref02_number.u1.c bailiffref02_number.u6.c
noncomputable def bailiffref02_number.f {α : Type} : Nat → List UInt8 → Int → (Int → Int → M α) → M α
  | 0, _, _, _ => fail
  | k + 1, x0, x1, ret =>
    bailiffref02_number.u7.f k x0 x1 (fun y0 y1 =>
      ret y0 y1)

noncomputable def bailiffref02_one.u1.f {α : Type} (k : Nat) (x0 : List UInt8) (x1 : Int) (kr : Ad → Int → M α) : M α :=
  new [.int .i64 0, .int .i64 0, .str [], .int .i64 0] fun x4 =>
  idxStr x0 x1 fun c5 =>
  cutStr x0 (some x1) (some (w64 (x1 + 1))) fun x6 =>
  new [.int .i64 0, .int .i64 0, .str [], .int .i64 0] fun t7 =>
  st1 (t7.add 0) (.int .i64 0) <|
  st1 (t7.add 1) (.int .i64 x1) <|
  st1 (t7.add 2) (.str x6) <|
  st1 (t7.add 3) (.int .i64 0) <|
  bailiffref02_small.f k c5 fun r8 =>
  bailiffref02_capital.f k c5 fun r9 =>
  bailiffref02_digit.f k c5 fun r10 =>
  cond (decide (c5 = 10)) (
    st1 ((t7.add 0).add 0) (.int .i64 1) <|
    ldI .i64 (t7.add 0) fun x11 =>
    ldI .i64 (t7.add 1) fun x12 =>
    ldStr (t7.add 2) fun x13 =>
    ldI .i64 (t7.add 3) fun x14 =>
    st1 (x4.add 0) (.int .i64 x11) <|
    st1 (x4.add 1) (.int .i64 x12) <|
    st1 (x4.add 2) (.str x13) <|
    st1 (x4.add 3) (.int .i64 x14) <|
    kr x4 0) (
    cond (r8) (
      st1 ((t7.add 0).add 0) (.int .i64 3) <|
      cond (r8) (
        st1 ((t7.add 0).add 0) (.int .i64 2) <|
        bailiffref02_name.f k x0 x1 fun r15 =>
        cutStr x0 (some x1) (some r15) fun x16 =>
        st1 ((t7.add 2).add 0) (.str x16) <|
        ldStr ((t7.add 2).add 0) fun x17 =>
        cond (decide (8 < (x17.length : Int))) (
          ldI .i64 (t7.add 0) fun x18 =>
          ldI .i64 (t7.add 1) fun x19 =>
          ldStr (t7.add 2) fun x20 =>
          ldI .i64 (t7.add 3) fun x21 =>
          st1 (x4.add 0) (.int .i64 x18) <|
          st1 (x4.add 1) (.int .i64 x19) <|
          st1 (x4.add 2) (.str x20) <|
          st1 (x4.add 3) (.int .i64 x21) <|
          kr x4 5) (
          ldI .i64 (t7.add 0) fun x22 =>
          ldI .i64 (t7.add 1) fun x23 =>
          ldStr (t7.add 2) fun x24 =>
          ldI .i64 (t7.add 3) fun x25 =>
          st1 (x4.add 0) (.int .i64 x22) <|
          st1 (x4.add 1) (.int .i64 x23) <|
          st1 (x4.add 2) (.str x24) <|
          st1 (x4.add 3) (.int .i64 x25) <|
          kr x4 0)) (
        bailiffref02_name.f k x0 x1 fun r26 =>
        cutStr x0 (some x1) (some r26) fun x27 =>
        st1 ((t7.add 2).add 0) (.str x27) <|
        ldStr ((t7.add 2).add 0) fun x28 =>
        cond (decide (8 < (x28.length : Int))) (
          ldI .i64 (t7.add 0) fun x29 =>
          ldI .i64 (t7.add 1) fun x30 =>
          ldStr (t7.add 2) fun x31 =>
          ldI .i64 (t7.add 3) fun x32 =>
          st1 (x4.add 0) (.int .i64 x29) <|
          st1 (x4.add 1) (.int .i64 x30) <|
          st1 (x4.add 2) (.str x31) <|
          st1 (x4.add 3) (.int .i64 x32) <|
          kr x4 5) (
          ldI .i64 (t7.add 0) fun x33 =>
          ldI .i64 (t7.add 1) fun x34 =>
          ldStr (t7.add 2) fun x35 =>
          ldI .i64 (t7.add 3) fun x36 =>
          st1 (x4.add 0) (.int .i64 x33) <|
          st1 (x4.add 1) (.int .i64 x34) <|
          st1 (x4.add 2) (.str x35) <|
          st1 (x4.add 3) (.int .i64 x36) <|
          kr x4 0))) (
      cond (r9) (
        st1 ((t7.add 0).add 0) (.int .i64 3) <|
        cond (r8) (
          st1 ((t7.add 0).add 0) (.int .i64 2) <|
          bailiffref02_name.f k x0 x1 fun r37 =>
          cutStr x0 (some x1) (some r37) fun x38 =>
          st1 ((t7.add 2).add 0) (.str x38) <|
          ldStr ((t7.add 2).add 0) fun x39 =>
          cond (decide (8 < (x39.length : Int))) (
            ldI .i64 (t7.add 0) fun x40 =>
            ldI .i64 (t7.add 1) fun x41 =>
            ldStr (t7.add 2) fun x42 =>
            ldI .i64 (t7.add 3) fun x43 =>
            st1 (x4.add 0) (.int .i64 x40) <|
            st1 (x4.add 1) (.int .i64 x41) <|
            st1 (x4.add 2) (.str x42) <|
            st1 (x4.add 3) (.int .i64 x43) <|
            kr x4 5) (
            ldI .i64 (t7.add 0) fun x44 =>
            ldI .i64 (t7.add 1) fun x45 =>
            ldStr (t7.add 2) fun x46 =>
            ldI .i64 (t7.add 3) fun x47 =>
            st1 (x4.add 0) (.int .i64 x44) <|
            st1 (x4.add 1) (.int .i64 x45) <|
            st1 (x4.add 2) (.str x46) <|
            st1 (x4.add 3) (.int .i64 x47) <|
            kr x4 0)) (
          bailiffref02_name.f k x0 x1 fun r48 =>
          cutStr x0 (some x1) (some r48) fun x49 =>
          st1 ((t7.add 2).add 0) (.str x49) <|
          ldStr ((t7.add 2).add 0) fun x50 =>
          cond (decide (8 < (x50.length : Int))) (
            ldI .i64 (t7.add 0) fun x51 =>
            ldI .i64 (t7.add 1) fun x52 =>
            ldStr (t7.add 2) fun x53 =>
            ldI .i64 (t7.add 3) fun x54 =>
            st1 (x4.add 0) (.int .i64 x51) <|
            st1 (x4.add 1) (.int .i64 x52) <|
            st1 (x4.add 2) (.str x53) <|
            st1 (x4.add 3) (.int .i64 x54) <|
            kr x4 5) (
            ldI .i64 (t7.add 0) fun x55 =>
            ldI .i64 (t7.add 1) fun x56 =>
            ldStr (t7.add 2) fun x57 =>
            ldI .i64 (t7.add 3) fun x58 =>
            st1 (x4.add 0) (.int .i64 x55) <|
            st1 (x4.add 1) (.int .i64 x56) <|
            st1 (x4.add 2) (.str x57) <|
            st1 (x4.add 3) (.int .i64 x58) <|
            kr x4 0))) (
        cond (r10) (
          st1 ((t7.add 0).add 0) (.int .i64 4) <|
          bailiffref02_number.f k x0 x1 fun r59 r60 =>
          cutStr x0 (some x1) (some r59) fun x61 =>
          st1 ((t7.add 2).add 0) (.str x61) <|
          st1 ((t7.add 3).add 0) (.int .i64 r60) <|
          cond (decide (9999 < r60)) (
            ldI .i64 (t7.add 0) fun x62 =>
            ldI .i64 (t7.add 1) fun x63 =>
            ldStr (t7.add 2) fun x64 =>
            ldI .i64 (t7.add 3) fun x65 =>
            st1 (x4.add 0) (.int .i64 x62) <|
            st1 (x4.add 1) (.int .i64 x63) <|
            st1 (x4.add 2) (.str x64) <|
            st1 (x4.add 3) (.int .i64 x65) <|
            kr x4 4) (
            cond (decide (c5 = 48)) (
              cond (decide (w64 (x1 + 1) < r59)) (
                ldI .i64 (t7.add 0) fun x66 =>
                ldI .i64 (t7.add 1) fun x67 =>
                ldStr (t7.add 2) fun x68 =>
                ldI .i64 (t7.add 3) fun x69 =>
                st1 (x4.add 0) (.int .i64 x66) <|
                st1 (x4.add 1) (.int .i64 x67) <|
                st1 (x4.add 2) (.str x68) <|
                st1 (x4.add 3) (.int .i64 x69) <|
                kr x4 4) (
                ldI .i64 (t7.add 0) fun x70 =>
                ldI .i64 (t7.add 1) fun x71 =>
                ldStr (t7.add 2) fun x72 =>
                ldI .i64 (t7.add 3) fun x73 =>
                st1 (x4.add 0) (.int .i64 x70) <|
                st1 (x4.add 1) (.int .i64 x71) <|
                st1 (x4.add 2) (.str x72) <|
                st1 (x4.add 3) (.int .i64 x73) <|
                kr x4 0)) (
              ldI .i64 (t7.add 0) fun x74 =>
              ldI .i64 (t7.add 1) fun x75 =>
              ldStr (t7.add 2) fun x76 =>
              ldI .i64 (t7.add 3) fun x77 =>
              st1 (x4.add 0) (.int .i64 x74) <|
              st1 (x4.add 1) (.int .i64 x75) <|
              st1 (x4.add 2) (.str x76) <|
              st1 (x4.add 3) (.int .i64 x77) <|
              kr x4 0))) (
          cond (decide (33 ≤ c5)) (
            cond (decide (c5 ≤ 126)) (
              cond (!(decide (c5 = 95))) (
                st1 ((t7.add 0).add 0) (.int .i64 5) <|
                ldI .i64 (t7.add 0) fun x78 =>
                ldI .i64 (t7.add 1) fun x79 =>
                ldStr (t7.add 2) fun x80 =>
                ldI .i64 (t7.add 3) fun x81 =>
                st1 (x4.add 0) (.int .i64 x78) <|
                st1 (x4.add 1) (.int .i64 x79) <|
                st1 (x4.add 2) (.str x80) <|
                st1 (x4.add 3) (.int .i64 x81) <|
                kr x4 0) (
                ldI .i64 (t7.add 0) fun x82 =>
                ldI .i64 (t7.add 1) fun x83 =>
                ldStr (t7.add 2) fun x84 =>
                ldI .i64 (t7.add 3) fun x85 =>
                st1 (x4.add 0) (.int .i64 x82) <|
                st1 (x4.add 1) (.int .i64 x83) <|
                st1 (x4.add 2) (.str x84) <|
                st1 (x4.add 3) (.int .i64 x85) <|
                kr x4 3)) (
              ldI .i64 (t7.add 0) fun x86 =>
              ldI .i64 (t7.add 1) fun x87 =>
              ldStr (t7.add 2) fun x88 =>
              ldI .i64 (t7.add 3) fun x89 =>
              st1 (x4.add 0) (.int .i64 x86) <|
              st1 (x4.add 1) (.int .i64 x87) <|
              st1 (x4.add 2) (.str x88) <|
              st1 (x4.add 3) (.int .i64 x89) <|
              kr x4 3)) (
            ldI .i64 (t7.add 0) fun x90 =>
            ldI .i64 (t7.add 1) fun x91 =>
            ldStr (t7.add 2) fun x92 =>
            ldI .i64 (t7.add 3) fun x93 =>
            st1 (x4.add 0) (.int .i64 x90) <|
            st1 (x4.add 1) (.int .i64 x91) <|
            st1 (x4.add 2) (.str x92) <|
            st1 (x4.add 3) (.int .i64 x93) <|
            kr x4 3)))))
noncomputable def bailiffref02_one.u1.c : IC := (.seq (.ops 0 (opsOf Tryd.f17 0)) (.seq (.ops 1 (opsOf Tryd.f17 1)) (.seq (.ops 2 (opsOf Tryd.f17 2)) (.seq (.ops 3 (opsOf Tryd.f17 3)) (.seq (.ops 4 (opsOf Tryd.f17 4)) (.seq (.ops 5 (opsOf Tryd.f17 5)) (.seq (.block 0 (.seq (.ops 7 (opsOf Tryd.f17 7)) (.cond (.tmp 30) (.ops 8 (opsOf Tryd.f17 8)) (.seq (.ops 9 (opsOf Tryd.f17 9)) (.cond (.tmp 34) (.seq (.ops 10 (opsOf Tryd.f17 10)) (.seq (.seq (.ops 11 (opsOf Tryd.f17 11)) (.cond (.tmp 40) (.ops 12 (opsOf Tryd.f17 12)) .skip)) (.seq (.ops 13 (opsOf Tryd.f17 13)) (.seq (.ops 14 (opsOf Tryd.f17 14)) (.cond (.tmp 52) (.seq (.ops 15 (opsOf Tryd.f17 15)) (.ret [4, 5])) .skip))))) (.seq (.ops 16 (opsOf Tryd.f17 16)) (.cond (.tmp 54) (.seq (.ops 17 (opsOf Tryd.f17 17)) (.seq (.ops 18 (opsOf Tryd.f17 18)) (.seq (.ops 19 (opsOf Tryd.f17 19)) (.seq (.ops 20 (opsOf Tryd.f17 20)) (.seq (.ops 21 (opsOf Tryd.f17 21)) (.cond (.tmp 81) (.seq (.ops 22 (opsOf Tryd.f17 22)) (.ret [4, 5])) .skip)))))) (.seq (.ops 23 (opsOf Tryd.f17 23)) (.cond (.tmp 83) (.ops 24 (opsOf Tryd.f17 24)) (.seq (.ops 6 (opsOf Tryd.f17 6)) (.ret [4, 5]))))))))))) (.seq (.ops 25 (opsOf Tryd.f17 25)) (.ret [4, 5])))))))))
noncomputable def bailiffref02_one.f {α : Type} : Nat → List UInt8 → Int → (Int → Int → List UInt8 → Int → Int → M α) → M α
  | 0, _, _, _ => fail
  | k + 1, x0, x1, ret =>
    bailiffref02_one.u1.f k x0 x1 (fun y0 y1 =>
      ldI .i64 (y0.add 0) fun o501 =>
      ldI .i64 (y0.add 1) fun o502 =>
      ldStr (y0.add 2) fun o503 =>
      ldI .i64 (y0.add 3) fun o504 =>
      ret o501 o502 o503 o504 y1)

noncomputable def bailiffref02_All.u1.f {α : Type} (k : Nat) (x0 : List UInt8) (kn : List UInt8 → Sl → Int → M α) (kr : Sl → Int → Int → M α) : M α :=
  cond (decide (262144 < (x0.length : Int))) (
    kr Sl.nil 262144 2) (
    kn x0 Sl.nil 0)
noncomputable def bailiffref02_All.u1.c (R : IC) : IC := (.seq (.ops 0 (opsOf Tryd.f12 0)) (.seq (.seq (.ops 1 (opsOf Tryd.f12 1)) (.cond (.tmp 11) (.seq (.ops 2 (opsOf Tryd.f12 2)) (.ret [2, 3, 4])) .skip)) (.seq (.ops 3 (opsOf Tryd.f12 3)) (.seq (.cut [0, 5, 6] (.ops 4 (opsOf Tryd.f12 4))) R))))
noncomputable def bailiffref02_All.u2.f {α : Type} (k : Nat) (x0 : List UInt8) (x1 : Sl) (x2 : Int) (kn : List UInt8 → Sl → Int → M α) (kx0 : List UInt8 → Sl → M α) : M α :=
  cond (decide (x2 < (x0.length : Int))) (
    kn x0 x1 x2) (
    kx0 x0 x1)
noncomputable def bailiffref02_All.u2.c (R : IC) : IC := (.seq (.cut [0, 5, 6] (.seq (.ops 5 (opsOf Tryd.f12 5)) (.cond (.tmp 15) .skip (.exit 0 [0, 5])))) R)
noncomputable def bailiffref02_All.u3.f {α : Type} (k : Nat) (x0 : List UInt8) (x1 : Sl) (x2 : Int) (kn : List UInt8 → Sl → Int → Int → M α) : M α :=
  idxStr x0 x2 fun c5 =>
  kn x0 x1 x2 c5
noncomputable def bailiffref02_All.u3.c (R : IC) : IC := (.seq (.cut [0, 5, 6, 18] (.ops 6 (opsOf Tryd.f12 6))) R)
noncomputable def bailiffref02_All.u4.f {α : Type} (k : Nat) (x0 : List UInt8) (x1 : Sl) (x2 : Int) (x3 : Int) (kn : List UInt8 → Sl → Int → Int → Bool → M α) : M α :=
  cond (decide (x3 = 32)) (
    kn x0 x1 x2 x3 (decide (x3 = 32))) (
    kn x0 x1 x2 x3 (decide (x3 = 9)))
noncomputable def bailiffref02_All.u4.c (R : IC) : IC := (.seq (.cut [0, 5, 6, 18, 19] (.seq (.ops 7 (opsOf Tryd.f12 7)) (.cond (.tmp 19) .skip (.ops 8 (opsOf Tryd.f12 8))))) R)
noncomputable def bailiffref02_All.u5.f {α : Type} (k : Nat) (x0 : List UInt8) (x1 : Sl) (x2 : Int) (x3 : Int) (x4 : Bool) (kx1 : List UInt8 → Sl → Int → M α) : M α :=
  kx1 x0 x1 (w64 (x2 + 1))
noncomputable def bailiffref02_All.u5.c : IC := (.seq (.ops 9 (opsOf Tryd.f12 9)) (.exit 1 [0, 5, 6]))
noncomputable def bailiffref02_All.u6.f {α : Type} (k : Nat) (x0 : List UInt8) (x1 : Sl) (x2 : Int) (x3 : Int) (x4 : Bool) (kn : List UInt8 → Sl → Int → Bool → M α) : M α :=
  kn x0 x1 x2 (decide (x3 = 35))
noncomputable def bailiffref02_All.u6.c (R : IC) : IC := (.seq (.cut [0, 5, 6, 24] (.ops 10 (opsOf Tryd.f12 10))) R)
noncomputable def bailiffref02_All.u7.f {α : Type} (k : Nat) (x0 : List UInt8) (x1 : Sl) (x2 : Int) (kn : List UInt8 → Sl → Int → M α) (kx3 : List UInt8 → Sl → Int → M α) : M α :=
  cond (decide (x2 < (x0.length : Int))) (
    idxStr x0 x2 fun c5 =>
    cond (!(decide (c5 = 10))) (
      kn x0 x1 (w64 (x2 + 1))) (
      kx3 x0 x1 x2)) (
    kx3 x0 x1 x2)
noncomputable def bailiffref02_All.u7.c : IC := (.seq (.seq (.ops 11 (opsOf Tryd.f12 11)) (.cond (.tmp 35) .skip (.exit 3 [0, 5, 6]))) (.cut [0, 5, 6] (.block 4 (.ops 12 (opsOf Tryd.f12 12)))))
noncomputable def bailiffref02_All.u8.l {α : Type} (k : Nat) (kx3 : List UInt8 → Sl → Int → M α) : Nat → List UInt8 → Sl → Int → M α
  | 0, _, _, _ => fail
  | j + 1, x0, x1, x2 =>
    bailiffref02_All.u7.f k x0 x1 x2 (fun y0 y1 y2 => bailiffref02_All.u8.l k kx3 j y0 y1 y2) kx3
noncomputable abbrev bailiffref02_All.u8.f {α : Type} (k : Nat) (x0 : List UInt8) (x1 : Sl) (x2 : Int) (x3 : Bool) (kx3 : List UInt8 → Sl → Int → M α) : M α :=
  bailiffref02_All.u8.l k kx3 k x0 x1 x2
noncomputable def bailiffref02_All.u8.c : IC := .loop [0, 5, 6] bailiffref02_All.u7.c
noncomputable abbrev bailiffref02_All.u9.f {α : Type} (k : Nat) (x0 : List UInt8) (x1 : Sl) (x2 : Int) (x3 : Bool) (kn : List UInt8 → Sl → Int → M α) : M α :=
  bailiffref02_All.u8.f k x0 x1 x2 x3 (fun y0 y1 y2 => kn y0 y1 y2)
noncomputable def bailiffref02_All.u9.c : IC := .block 3 bailiffref02_All.u8.c
noncomputable def bailiffref02_All.u10.f {α : Type} (k : Nat) (x0 : List UInt8) (x1 : Sl) (x2 : Int) (kx1 : List UInt8 → Sl → Int → M α) : M α :=
  kx1 x0 x1 x2
noncomputable def bailiffref02_All.u10.c : IC := (.exit 1 [0, 5, 6])
noncomputable abbrev bailiffref02_All.u11.f {α : Type} (k : Nat) (x0 : List UInt8) (x1 : Sl) (x2 : Int) (x3 : Bool) (kx1 : List UInt8 → Sl → Int → M α) : M α :=
  bailiffref02_All.u9.f k x0 x1 x2 x3 (fun y0 y1 y2 => bailiffref02_All.u10.f k y0 y1 y2 kx1)
noncomputable def bailiffref02_All.u11.c : IC := (.seq bailiffref02_All.u9.c bailiffref02_All.u10.c)
noncomputable def bailiffref02_All.u12.f {α : Type} (k : Nat) (x0 : List UInt8) (x1 : Sl) (x2 : Int) (x3 : Bool) (kn : List UInt8 → Sl → Int → M α) : M α :=
  kn x0 x1 x2
noncomputable def bailiffref02_All.u12.c : IC := (.cut [0, 5, 6] .skip)
noncomputable abbrev bailiffref02_All.u13.f {α : Type} (k : Nat) (x0 : List UInt8) (x1 : Sl) (x2 : Int) (x3 : Bool) (kn : List UInt8 → Sl → Int → M α) (kx1 : List UInt8 → Sl → Int → M α) : M α :=
  cond x3 (
    bailiffref02_All.u11.f k x0 x1 x2 x3 kx1) (
    bailiffref02_All.u12.f k x0 x1 x2 x3 kn)
noncomputable def bailiffref02_All.u13.c : IC := .cond (.tmp 24) bailiffref02_All.u11.c bailiffref02_All.u12.c
noncomputable abbrev bailiffref02_All.u14.f {α : Type} (k : Nat) (x0 : List UInt8) (x1 : Sl) (x2 : Int) (x3 : Int) (x4 : Bool) (kn : List UInt8 → Sl → Int → M α) (kx1 : List UInt8 → Sl → Int → M α) : M α :=
  bailiffref02_All.u6.f k x0 x1 x2 x3 x4 (fun y0 y1 y2 y3 => bailiffref02_All.u13.f k y0 y1 y2 y3 kn kx1)
noncomputable def bailiffref02_All.u14.c : IC := bailiffref02_All.u6.c bailiffref02_All.u13.c
noncomputable abbrev bailiffref02_All.u15.f {α : Type} (k : Nat) (x0 : List UInt8) (x1 : Sl) (x2 : Int) (x3 : Int) (x4 : Bool) (kn : List UInt8 → Sl → Int → M α) (kx1 : List UInt8 → Sl → Int → M α) : M α :=
  cond x4 (
    bailiffref02_All.u5.f k x0 x1 x2 x3 x4 kx1) (
    bailiffref02_All.u14.f k x0 x1 x2 x3 x4 kn kx1)
noncomputable def bailiffref02_All.u15.c : IC := .cond (.tmp 19) bailiffref02_All.u5.c bailiffref02_All.u14.c
noncomputable abbrev bailiffref02_All.u16.f {α : Type} (k : Nat) (x0 : List UInt8) (x1 : Sl) (x2 : Int) (x3 : Int) (kn : List UInt8 → Sl → Int → M α) (kx1 : List UInt8 → Sl → Int → M α) : M α :=
  bailiffref02_All.u4.f k x0 x1 x2 x3 (fun y0 y1 y2 y3 y4 => bailiffref02_All.u15.f k y0 y1 y2 y3 y4 kn kx1)
noncomputable def bailiffref02_All.u16.c : IC := bailiffref02_All.u4.c bailiffref02_All.u15.c
noncomputable abbrev bailiffref02_All.u17.f {α : Type} (k : Nat) (x0 : List UInt8) (x1 : Sl) (x2 : Int) (x3 : Int) (kn : List UInt8 → Sl → Int → M α) (kx1 : List UInt8 → Sl → Int → M α) : M α :=
  bailiffref02_All.u16.f k x0 x1 x2 x3 (fun y0 y1 y2 => kn y0 y1 y2) kx1
noncomputable def bailiffref02_All.u17.c : IC := .block 2 bailiffref02_All.u16.c
noncomputable abbrev bailiffref02_All.u18.f {α : Type} (k : Nat) (x0 : List UInt8) (x1 : Sl) (x2 : Int) (kn : List UInt8 → Sl → Int → M α) (kx1 : List UInt8 → Sl → Int → M α) : M α :=
  bailiffref02_All.u3.f k x0 x1 x2 (fun y0 y1 y2 y3 => bailiffref02_All.u17.f k y0 y1 y2 y3 kn kx1)
noncomputable def bailiffref02_All.u18.c : IC := bailiffref02_All.u3.c bailiffref02_All.u17.c
noncomputable def bailiffref02_All.u19.f {α : Type} (k : Nat) (x0 : List UInt8) (x1 : Sl) (x2 : Int) (kn : List UInt8 → Sl → Int → M α) (kr : Sl → Int → Int → M α) : M α :=
  bailiffref02_one.f k x0 x2 fun r5 r6 r7 r8 r9 =>
  new [.int .i64 0, .int .i64 0, .str [], .int .i64 0] fun t10 =>
  st1 (t10.add 0) (.int .i64 r5) <|
  st1 (t10.add 1) (.int .i64 r6) <|
  st1 (t10.add 2) (.str r7) <|
  st1 (t10.add 3) (.int .i64 r8) <|
  cond (!(decide (r9 = 0))) (
    kr Sl.nil x2 r9) (
    ldI .i64 (t10.add 0) fun x11 =>
    ldI .i64 (t10.add 1) fun x12 =>
    ldStr (t10.add 2) fun x13 =>
    ldI .i64 (t10.add 3) fun x14 =>
    new [.int .i64 x11, .int .i64 x12, .str x13, .int .i64 x14] fun r15 =>
    appRow x1 4 40 (⟨some r15, 1, 1, none⟩ : Sl) fun x16 =>
    ldStr ((t10.add 2).add 0) fun x17 =>
    kn x0 x16 (w64 (x2 + (x17.length : Int))))
noncomputable def bailiffref02_All.u19.c : IC := (.seq (.ops 13 (opsOf Tryd.f12 13)) (.seq (.seq (.ops 14 (opsOf Tryd.f12 14)) (.cond (.tmp 45) (.seq (.ops 15 (opsOf Tryd.f12 15)) (.ret [2, 3, 4])) .skip)) (.seq (.ops 16 (opsOf Tryd.f12 16)) (.cut [0, 5, 6] (.ops 17 (opsOf Tryd.f12 17))))))
noncomputable abbrev bailiffref02_All.u20.f {α : Type} (k : Nat) (x0 : List UInt8) (x1 : Sl) (x2 : Int) (kn : List UInt8 → Sl → Int → M α) (kr : Sl → Int → Int → M α) (kx1 : List UInt8 → Sl → Int → M α) : M α :=
  bailiffref02_All.u18.f k x0 x1 x2 (fun y0 y1 y2 => bailiffref02_All.u19.f k y0 y1 y2 kn kr) kx1
noncomputable def bailiffref02_All.u20.c : IC := (.seq bailiffref02_All.u18.c bailiffref02_All.u19.c)
noncomputable abbrev bailiffref02_All.u21.f {α : Type} (k : Nat) (x0 : List UInt8) (x1 : Sl) (x2 : Int) (kn : List UInt8 → Sl → Int → M α) (kr : Sl → Int → Int → M α) : M α :=
  bailiffref02_All.u20.f k x0 x1 x2 (fun y0 y1 y2 => kn y0 y1 y2) kr (fun y0 y1 y2 => kn y0 y1 y2)
noncomputable def bailiffref02_All.u21.c : IC := .block 1 bailiffref02_All.u20.c
noncomputable abbrev bailiffref02_All.u22.f {α : Type} (k : Nat) (x0 : List UInt8) (x1 : Sl) (x2 : Int) (kn : List UInt8 → Sl → Int → M α) (kr : Sl → Int → Int → M α) (kx0 : List UInt8 → Sl → M α) : M α :=
  bailiffref02_All.u2.f k x0 x1 x2 (fun y0 y1 y2 => bailiffref02_All.u21.f k y0 y1 y2 kn kr) kx0
noncomputable def bailiffref02_All.u22.c : IC := bailiffref02_All.u2.c bailiffref02_All.u21.c
noncomputable def bailiffref02_All.u23.l {α : Type} (k : Nat) (kr : Sl → Int → Int → M α) (kx0 : List UInt8 → Sl → M α) : Nat → List UInt8 → Sl → Int → M α
  | 0, _, _, _ => fail
  | j + 1, x0, x1, x2 =>
    bailiffref02_All.u22.f k x0 x1 x2 (fun y0 y1 y2 => bailiffref02_All.u23.l k kr kx0 j y0 y1 y2) kr kx0
noncomputable abbrev bailiffref02_All.u23.f {α : Type} (k : Nat) (x0 : List UInt8) (x1 : Sl) (x2 : Int) (kr : Sl → Int → Int → M α) (kx0 : List UInt8 → Sl → M α) : M α :=
  bailiffref02_All.u23.l k kr kx0 k x0 x1 x2
noncomputable def bailiffref02_All.u23.c : IC := .loop [0, 5, 6] bailiffref02_All.u22.c
noncomputable abbrev bailiffref02_All.u24.f {α : Type} (k : Nat) (x0 : List UInt8) (x1 : Sl) (x2 : Int) (kn : List UInt8 → Sl → M α) (kr : Sl → Int → Int → M α) : M α :=
  bailiffref02_All.u23.f k x0 x1 x2 kr (fun y0 y1 => kn y0 y1)
noncomputable def bailiffref02_All.u24.c : IC := .block 0 bailiffref02_All.u23.c
noncomputable def bailiffref02_All.u25.f {α : Type} (k : Nat) (x0 : List UInt8) (x1 : Sl) (kr : Sl → Int → Int → M α) : M α :=
  new [.int .i64 0, .int .i64 (x0.length : Int), .str [], .int .i64 0] fun r4 =>
  appRow x1 4 40 (⟨some r4, 1, 1, none⟩ : Sl) fun x5 =>
  kr x5 0 0
noncomputable def bailiffref02_All.u25.c : IC := (.seq (.ops 18 (opsOf Tryd.f12 18)) (.ret [2, 3, 4]))
noncomputable abbrev bailiffref02_All.u26.f {α : Type} (k : Nat) (x0 : List UInt8) (x1 : Sl) (x2 : Int) (kr : Sl → Int → Int → M α) : M α :=
  bailiffref02_All.u24.f k x0 x1 x2 (fun y0 y1 => bailiffref02_All.u25.f k y0 y1 kr) kr
noncomputable def bailiffref02_All.u26.c : IC := (.seq bailiffref02_All.u24.c bailiffref02_All.u25.c)
noncomputable abbrev bailiffref02_All.u27.f {α : Type} (k : Nat) (x0 : List UInt8) (kr : Sl → Int → Int → M α) : M α :=
  bailiffref02_All.u1.f k x0 (fun y0 y1 y2 => bailiffref02_All.u26.f k y0 y1 y2 kr) kr
noncomputable def bailiffref02_All.u27.c : IC := bailiffref02_All.u1.c bailiffref02_All.u26.c
noncomputable def bailiffref02_All.f {α : Type} : Nat → List UInt8 → (Sl → Int → Int → M α) → M α
  | 0, _, _ => fail
  | k + 1, x0, ret =>
    bailiffref02_All.u27.f k x0 (fun y0 y1 y2 =>
      ret y0 y1 y2)

noncomputable def bailifflaw02_same.u1.f {α : Type} (k : Nat) (x0 : Sl) (x1 : Sl) (x2 : Int) (kn : Sl → Sl → Int → M α) (kr : Bool → M α) : M α :=
  cond (!(decide ((x0.len : Int) = (x1.len : Int)))) (
    kr false) (
    kn x0 x1 x2)
noncomputable def bailifflaw02_same.u1.c (R : IC) : IC := (.seq (.ops 0 (opsOf Tryd.f14 0)) (.seq (.cut [0, 1, 2] (.seq (.ops 1 (opsOf Tryd.f14 1)) (.cond (.tmp 13) (.seq (.ops 2 (opsOf Tryd.f14 2)) (.ret [6])) .skip))) R))
noncomputable def bailifflaw02_same.u2.f {α : Type} (k : Nat) (x0 : Sl) (x1 : Sl) (x2 : Int) (kn : Sl → Sl → Int → Int → M α) : M α :=
  kn x0 x1 x2 0
noncomputable def bailifflaw02_same.u2.c (R : IC) : IC := (.seq (.cut [0, 1, 2, 7] (.ops 3 (opsOf Tryd.f14 3))) R)
noncomputable def bailifflaw02_same.u3.f {α : Type} (k : Nat) (x0 : Sl) (x1 : Sl) (x2 : Int) (x3 : Int) (kn : Sl → Sl → Int → Int → M α) (kr : Bool → M α) (kx0 : M α) : M α :=
  cond (decide (x3 < (x0.len : Int))) (
    idxSl x0 x3 4 fun a6 =>
    ldI .i64 (a6.add 0) fun x7 =>
    ldI .i64 (a6.add 1) fun x8 =>
    ldStr (a6.add 2) fun x9 =>
    ldI .i64 (a6.add 3) fun x10 =>
    new [.int .i64 0, .int .i64 0, .str [], .int .i64 0] fun t11 =>
    st1 (t11.add 0) (.int .i64 x7) <|
    st1 (t11.add 1) (.int .i64 x8) <|
    st1 (t11.add 2) (.str x9) <|
    st1 (t11.add 3) (.int .i64 x10) <|
    ldI .i64 ((t11.add 1).add 0) fun x12 =>
    st1 ((t11.add 1).add 0) (.int .i64 (w64 (x12 + x2))) <|
    ldI .i64 (t11.add 0) fun x13 =>
    ldI .i64 (t11.add 1) fun x14 =>
    ldStr (t11.add 2) fun x15 =>
    ldI .i64 (t11.add 3) fun x16 =>
    idxSl x1 x3 4 fun a17 =>
    ldI .i64 (a17.add 0) fun x18 =>
    ldI .i64 (a17.add 1) fun x19 =>
    ldStr (a17.add 2) fun x20 =>
    ldI .i64 (a17.add 3) fun x21 =>
    cond (!((decide (x13 = x18) && (decide (x14 = x19) && (decide (x15 = x20) && (decide (x16 = x21) && true)))))) (
      kr false) (
      kn x0 x1 x2 (w64 (x3 + 1)))) (
    kx0)
noncomputable def bailifflaw02_same.u3.c : IC := (.seq (.seq (.ops 4 (opsOf Tryd.f14 4)) (.cond (.tmp 17) .skip (.exit 0 []))) (.seq (.block 1 (.seq (.ops 6 (opsOf Tryd.f14 6)) (.seq (.ops 7 (opsOf Tryd.f14 7)) (.seq (.drawn 8 (opsOf Tryd.f14 8) true [.op 0, .op 1, .op 2, .op 3, .op 4, .op 5]) (.cond (.tmp 34) (.seq (.ops 9 (opsOf Tryd.f14 9)) (.ret [6])) .skip))))) (.cut [0, 1, 2, 7] (.ops 5 (opsOf Tryd.f14 5)))))
noncomputable def bailifflaw02_same.u4.l {α : Type} (k : Nat) (kr : Bool → M α) (kx0 : M α) : Nat → Sl → Sl → Int → Int → M α
  | 0, _, _, _, _ => fail
  | j + 1, x0, x1, x2, x3 =>
    bailifflaw02_same.u3.f k x0 x1 x2 x3 (fun y0 y1 y2 y3 => bailifflaw02_same.u4.l k kr kx0 j y0 y1 y2 y3) kr kx0
noncomputable abbrev bailifflaw02_same.u4.f {α : Type} (k : Nat) (x0 : Sl) (x1 : Sl) (x2 : Int) (x3 : Int) (kr : Bool → M α) (kx0 : M α) : M α :=
  bailifflaw02_same.u4.l k kr kx0 k x0 x1 x2 x3
noncomputable def bailifflaw02_same.u4.c : IC := .loop [0, 1, 2, 7] bailifflaw02_same.u3.c
noncomputable abbrev bailifflaw02_same.u5.f {α : Type} (k : Nat) (x0 : Sl) (x1 : Sl) (x2 : Int) (x3 : Int) (kn : M α) (kr : Bool → M α) : M α :=
  bailifflaw02_same.u4.f k x0 x1 x2 x3 kr (kn)
noncomputable def bailifflaw02_same.u5.c : IC := .block 0 bailifflaw02_same.u4.c
noncomputable abbrev bailifflaw02_same.u6.f {α : Type} (k : Nat) (x0 : Sl) (x1 : Sl) (x2 : Int) (kn : M α) (kr : Bool → M α) : M α :=
  bailifflaw02_same.u2.f k x0 x1 x2 (fun y0 y1 y2 y3 => bailifflaw02_same.u5.f k y0 y1 y2 y3 kn kr)
noncomputable def bailifflaw02_same.u6.c : IC := bailifflaw02_same.u2.c bailifflaw02_same.u5.c
noncomputable def bailifflaw02_same.u7.f {α : Type} (k : Nat) (kr : Bool → M α) : M α :=
  kr true
noncomputable def bailifflaw02_same.u7.c : IC := (.seq (.ops 10 (opsOf Tryd.f14 10)) (.ret [6]))
noncomputable abbrev bailifflaw02_same.u8.f {α : Type} (k : Nat) (x0 : Sl) (x1 : Sl) (x2 : Int) (kr : Bool → M α) : M α :=
  bailifflaw02_same.u6.f k x0 x1 x2 (bailifflaw02_same.u7.f k kr) kr
noncomputable def bailifflaw02_same.u8.c : IC := (.seq bailifflaw02_same.u6.c bailifflaw02_same.u7.c)
noncomputable abbrev bailifflaw02_same.u9.f {α : Type} (k : Nat) (x0 : Sl) (x1 : Sl) (x2 : Int) (kr : Bool → M α) : M α :=
  bailifflaw02_same.u1.f k x0 x1 x2 (fun y0 y1 y2 => bailifflaw02_same.u8.f k y0 y1 y2 kr) kr
noncomputable def bailifflaw02_same.u9.c : IC := bailifflaw02_same.u1.c bailifflaw02_same.u8.c
noncomputable def bailifflaw02_same.f {α : Type} : Nat → Sl → Sl → Int → (Bool → M α) → M α
  | 0, _, _, _, _ => fail
  | k + 1, x0, x1, x2, ret =>
    bailifflaw02_same.u9.f k x0 x1 x2 (fun y0 =>
      ret y0)

noncomputable def bailifflaw02_ScanAll.u1.f {α : Type} (k : Nat) (x0 : List UInt8) (kn : Bool → Sl → Sl → Sl → Int → Int → Int → Int → Bool → M α) : M α :=
  bailifflaw02_shown.f k fun r3 =>
  scan_All.f k x0 fun r4 r5 =>
  scan_All.f k x0 fun r6 r7 =>
  bailiffref02_All.f k x0 fun r8 r9 r10 =>
  bailifflaw02_fault.f k r5 fun r11 r12 =>
  bailifflaw02_same.f k r4 r8 0 fun r13 =>
  kn r3 r4 r6 r8 r9 r10 r11 r12 r13
noncomputable def bailifflaw02_ScanAll.u1.c (R : IC) : IC := (.seq (.ops 0 (opsOf Tryd.f3 0)) (.seq (.ops 1 (opsOf Tryd.f3 1)) (.seq (.ops 2 (opsOf Tryd.f3 2)) (.seq (.ops 3 (opsOf Tryd.f3 3)) (.seq (.ops 4 (opsOf Tryd.f3 4)) (.seq (.ops 5 (opsOf Tryd.f3 5)) (.seq (.cut [3, 4, 6, 8, 9, 10, 11, 12, 13] (.ops 6 (opsOf Tryd.f3 6))) R)))))))
noncomputable def bailifflaw02_ScanAll.u2.f {α : Type} (k : Nat) (x0 : Bool) (x1 : Sl) (x2 : Sl) (x3 : Sl) (x4 : Int) (x5 : Int) (x6 : Int) (x7 : Int) (x8 : Bool) (kn : Bool → Sl → Sl → Sl → Int → Int → Int → Int → Bool → Int → M α) : M α :=
  kn x0 x1 x2 x3 x4 x5 x6 x7 x8 0
noncomputable def bailifflaw02_ScanAll.u2.c (R : IC) : IC := (.seq (.cut [3, 4, 6, 8, 9, 10, 11, 12, 13, 14] (.ops 7 (opsOf Tryd.f3 7))) R)
noncomputable def bailifflaw02_ScanAll.u3.f {α : Type} (k : Nat) (x0 : Bool) (x1 : Sl) (x2 : Sl) (x3 : Sl) (x4 : Int) (x5 : Int) (x6 : Int) (x7 : Int) (x8 : Bool) (x9 : Int) (kn : Bool → Sl → Sl → Sl → Int → Int → Int → Int → Bool → Int → M α) (kx0 : Bool → Sl → Sl → Sl → Int → Int → Int → Int → Bool → M α) : M α :=
  cond (decide (x9 < (x1.len : Int))) (
    idxSl x1 x9 4 fun a12 =>
    st1 (a12.add 0) (.int .i64 9) <|
    st1 (a12.add 1) (.int .i64 0) <|
    st1 (a12.add 2) (.str []) <|
    st1 (a12.add 3) (.int .i64 0) <|
    kn x0 x1 x2 x3 x4 x5 x6 x7 x8 (w64 (x9 + 1))) (
    kx0 x0 x1 x2 x3 x4 x5 x6 x7 x8)
noncomputable def bailifflaw02_ScanAll.u3.c : IC := (.seq (.seq (.ops 8 (opsOf Tryd.f3 8)) (.cond (.tmp 44) .skip (.exit 0 [3, 4, 6, 8, 9, 10, 11, 12, 13]))) (.seq (.block 1 (.ops 10 (opsOf Tryd.f3 10))) (.cut [3, 4, 6, 8, 9, 10, 11, 12, 13, 14] (.ops 9 (opsOf Tryd.f3 9)))))
noncomputable def bailifflaw02_ScanAll.u4.l {α : Type} (k : Nat) (kx0 : Bool → Sl → Sl → Sl → Int → Int → Int → Int → Bool → M α) : Nat → Bool → Sl → Sl → Sl → Int → Int → Int → Int → Bool → Int → M α
  | 0, _, _, _, _, _, _, _, _, _, _ => fail
  | j + 1, x0, x1, x2, x3, x4, x5, x6, x7, x8, x9 =>
    bailifflaw02_ScanAll.u3.f k x0 x1 x2 x3 x4 x5 x6 x7 x8 x9 (fun y0 y1 y2 y3 y4 y5 y6 y7 y8 y9 => bailifflaw02_ScanAll.u4.l k kx0 j y0 y1 y2 y3 y4 y5 y6 y7 y8 y9) kx0
noncomputable abbrev bailifflaw02_ScanAll.u4.f {α : Type} (k : Nat) (x0 : Bool) (x1 : Sl) (x2 : Sl) (x3 : Sl) (x4 : Int) (x5 : Int) (x6 : Int) (x7 : Int) (x8 : Bool) (x9 : Int) (kx0 : Bool → Sl → Sl → Sl → Int → Int → Int → Int → Bool → M α) : M α :=
  bailifflaw02_ScanAll.u4.l k kx0 k x0 x1 x2 x3 x4 x5 x6 x7 x8 x9
noncomputable def bailifflaw02_ScanAll.u4.c : IC := .loop [3, 4, 6, 8, 9, 10, 11, 12, 13, 14] bailifflaw02_ScanAll.u3.c
noncomputable abbrev bailifflaw02_ScanAll.u5.f {α : Type} (k : Nat) (x0 : Bool) (x1 : Sl) (x2 : Sl) (x3 : Sl) (x4 : Int) (x5 : Int) (x6 : Int) (x7 : Int) (x8 : Bool) (x9 : Int) (kn : Bool → Sl → Sl → Sl → Int → Int → Int → Int → Bool → M α) : M α :=
  bailifflaw02_ScanAll.u4.f k x0 x1 x2 x3 x4 x5 x6 x7 x8 x9 (fun y0 y1 y2 y3 y4 y5 y6 y7 y8 => kn y0 y1 y2 y3 y4 y5 y6 y7 y8)
noncomputable def bailifflaw02_ScanAll.u5.c : IC := .block 0 bailifflaw02_ScanAll.u4.c
noncomputable abbrev bailifflaw02_ScanAll.u6.f {α : Type} (k : Nat) (x0 : Bool) (x1 : Sl) (x2 : Sl) (x3 : Sl) (x4 : Int) (x5 : Int) (x6 : Int) (x7 : Int) (x8 : Bool) (kn : Bool → Sl → Sl → Sl → Int → Int → Int → Int → Bool → M α) : M α :=
  bailifflaw02_ScanAll.u2.f k x0 x1 x2 x3 x4 x5 x6 x7 x8 (fun y0 y1 y2 y3 y4 y5 y6 y7 y8 y9 => bailifflaw02_ScanAll.u5.f k y0 y1 y2 y3 y4 y5 y6 y7 y8 y9 kn)
noncomputable def bailifflaw02_ScanAll.u6.c : IC := bailifflaw02_ScanAll.u2.c bailifflaw02_ScanAll.u5.c
noncomputable def bailifflaw02_ScanAll.u7.f {α : Type} (k : Nat) (x0 : Bool) (x1 : Sl) (x2 : Sl) (x3 : Sl) (x4 : Int) (x5 : Int) (x6 : Int) (x7 : Int) (x8 : Bool) (kr : Bool → M α) : M α :=
  new [.int .i64 9, .int .i64 0, .str [], .int .i64 0, .int .i64 9, .int .i64 0, .str [], .int .i64 0] fun r11 =>
  appRow x1 4 40 (⟨some r11, 2, 2, none⟩ : Sl) fun x12 =>
  bailifflaw02_same.f k x2 x3 0 fun r13 =>
  cond (x0) (
    cond (x8) (
      cond (r13) (
        cond (decide (x6 = x4)) (
          cond (decide (x7 = x5)) (
            kr (decide ((x12.len : Int) = w64 ((x3.len : Int) + 2)))) (
            kr false)) (
          kr false)) (
        kr false)) (
      kr false)) (
    kr false)
noncomputable def bailifflaw02_ScanAll.u7.c : IC := (.seq (.ops 11 (opsOf Tryd.f3 11)) (.seq (.ops 12 (opsOf Tryd.f3 12)) (.seq (.ops 13 (opsOf Tryd.f3 13)) (.ret [2]))))
noncomputable abbrev bailifflaw02_ScanAll.u8.f {α : Type} (k : Nat) (x0 : Bool) (x1 : Sl) (x2 : Sl) (x3 : Sl) (x4 : Int) (x5 : Int) (x6 : Int) (x7 : Int) (x8 : Bool) (kr : Bool → M α) : M α :=
  bailifflaw02_ScanAll.u6.f k x0 x1 x2 x3 x4 x5 x6 x7 x8 (fun y0 y1 y2 y3 y4 y5 y6 y7 y8 => bailifflaw02_ScanAll.u7.f k y0 y1 y2 y3 y4 y5 y6 y7 y8 kr)
noncomputable def bailifflaw02_ScanAll.u8.c : IC := (.seq bailifflaw02_ScanAll.u6.c bailifflaw02_ScanAll.u7.c)
noncomputable abbrev bailifflaw02_ScanAll.u9.f {α : Type} (k : Nat) (x0 : List UInt8) (kr : Bool → M α) : M α :=
  bailifflaw02_ScanAll.u1.f k x0 (fun y0 y1 y2 y3 y4 y5 y6 y7 y8 => bailifflaw02_ScanAll.u8.f k y0 y1 y2 y3 y4 y5 y6 y7 y8 kr)
noncomputable def bailifflaw02_ScanAll.u9.c : IC := bailifflaw02_ScanAll.u1.c bailifflaw02_ScanAll.u8.c
noncomputable def bailifflaw02_ScanAll.f {α : Type} : Nat → List UInt8 → (Bool → M α) → M α
  | 0, _, _ => fail
  | k + 1, x0, ret =>
    bailifflaw02_ScanAll.u9.f k x0 (fun y0 =>
      ret y0)

noncomputable def bailifflaw02_ScanPieces.u1.f {α : Type} (k : Nat) (x0 : List UInt8) (kn : List UInt8 → Sl → Int → M α) (kr : Bool → M α) : M α :=
  bailifflaw02_shown.f k fun r3 =>
  scan_All.f k x0 fun r4 r5 =>
  cond (!r3) (
    bailifflaw02_fault.f k r5 fun r6 r7 =>
    cond (r3) (
      cond (decide (0 ≤ r6)) (
        cond (decide (r6 ≤ (x0.length : Int))) (
          cond (!(decide (r7 = 0))) (
            kr (decide ((r4.len : Int) = 0))) (
            kr false)) (
          kr false)) (
        kr false)) (
      kr false)) (
    asNil r5 fun b8 =>
    cond (!b8) (
      bailifflaw02_fault.f k r5 fun r9 r10 =>
      cond (r3) (
        cond (decide (0 ≤ r9)) (
          cond (decide (r9 ≤ (x0.length : Int))) (
            cond (!(decide (r10 = 0))) (
              kr (decide ((r4.len : Int) = 0))) (
              kr false)) (
            kr false)) (
          kr false)) (
        kr false)) (
      kn x0 r4 0))
noncomputable def bailifflaw02_ScanPieces.u1.c (R : IC) : IC := (.seq (.ops 0 (opsOf Tryd.f4 0)) (.seq (.ops 1 (opsOf Tryd.f4 1)) (.seq (.ops 2 (opsOf Tryd.f4 2)) (.seq (.seq (.ops 3 (opsOf Tryd.f4 3)) (.cond (.tmp 24) (.seq (.ops 4 (opsOf Tryd.f4 4)) (.seq (.ops 5 (opsOf Tryd.f4 5)) (.ret [2]))) .skip)) (.seq (.cut [0, 4, 8] (.ops 6 (opsOf Tryd.f4 6))) R)))))
noncomputable def bailifflaw02_ScanPieces.u2.f {α : Type} (k : Nat) (x0 : List UInt8) (x1 : Sl) (x2 : Int) (kn : List UInt8 → Sl → Int → Int → M α) : M α :=
  kn x0 x1 x2 0
noncomputable def bailifflaw02_ScanPieces.u2.c (R : IC) : IC := (.seq (.cut [0, 4, 8, 9] (.ops 7 (opsOf Tryd.f4 7))) R)
noncomputable def bailifflaw02_ScanPieces.u3.f {α : Type} (k : Nat) (x0 : List UInt8) (x1 : Sl) (x2 : Int) (x3 : Int) (kn : List UInt8 → Sl → Int → Int → M α) (kx0 : List UInt8 → Sl → Int → M α) : M α :=
  cond (decide (x3 < (x1.len : Int))) (
    kn x0 x1 x2 x3) (
    kx0 x0 x1 x2)
noncomputable def bailifflaw02_ScanPieces.u3.c (R : IC) : IC := (.seq (.cut [0, 4, 8, 9] (.seq (.ops 8 (opsOf Tryd.f4 8)) (.cond (.tmp 53) .skip (.exit 0 [0, 4, 8])))) R)
noncomputable def bailifflaw02_ScanPieces.u4.f {α : Type} (k : Nat) (x0 : List UInt8) (x1 : Sl) (x2 : Int) (x3 : Int) (kn : List UInt8 → Sl → Int → Int → Ad → Bool → M α) (kr : Bool → M α) : M α :=
  idxSl x1 x3 4 fun a6 =>
  ldI .i64 (a6.add 0) fun x7 =>
  ldI .i64 (a6.add 1) fun x8 =>
  ldStr (a6.add 2) fun x9 =>
  ldI .i64 (a6.add 3) fun x10 =>
  new [.int .i64 0, .int .i64 0, .str [], .int .i64 0] fun t11 =>
  st1 (t11.add 0) (.int .i64 x7) <|
  st1 (t11.add 1) (.int .i64 x8) <|
  st1 (t11.add 2) (.str x9) <|
  st1 (t11.add 3) (.int .i64 x10) <|
  ldI .i64 ((t11.add 1).add 0) fun x12 =>
  cond (decide (x12 < x2)) (
    kr false) (
    ldI .i64 ((t11.add 1).add 0) fun x13 =>
    ldStr ((t11.add 2).add 0) fun x14 =>
    cond (decide ((x0.length : Int) < w64 (x13 + (x14.length : Int)))) (
      kr false) (
      ldI .i64 ((t11.add 1).add 0) fun x15 =>
      ldI .i64 ((t11.add 1).add 0) fun x16 =>
      ldStr ((t11.add 2).add 0) fun x17 =>
      cutStr x0 (some x15) (some (w64 (x16 + (x17.length : Int)))) fun x18 =>
      ldStr ((t11.add 2).add 0) fun x19 =>
      cond (!(decide (x18 = x19))) (
        kr false) (
        ldI .i64 ((t11.add 0).add 0) fun x20 =>
        cond (!(decide ((decide (x20 = 0)) = (decide (x3 = w64 ((x1.len : Int) - 1)))))) (
          kr false) (
          ldStr ((t11.add 2).add 0) fun x21 =>
          ldI .i64 ((t11.add 0).add 0) fun x22 =>
          cond (!(decide ((decide ((x21.length : Int) = 0)) = (decide (x22 = 0))))) (
            kr false) (
            kn x0 x1 x2 x3 t11 false)))))
noncomputable def bailifflaw02_ScanPieces.u4.c (R : IC) : IC := (.seq (.ops 10 (opsOf Tryd.f4 10)) (.seq (.seq (.drawn 11 (opsOf Tryd.f4 11) true [.op 0, .op 1, .op 2, .op 3, .op 4, .op 5, .op 6, .op 7, .op 8, .op 9, .op 10, .op 11, .op 12, .op 13, .op 14, .op 15, .op 16, .op 17, .op 18, .op 19, .op 20, .op 21, .op 22, .op 23, .op 24, .op 25, .op 26, .op 27, .op 28, .op 29, .op 30, .op 31, .op 32, .op 33, .op 34, .op 35, .op 36, .op 37, .op 38, .op 39, .op 40, .op 41, .op 42, .op 43, .op 44, .op 45, .op 46, .op 47, .op 48, .op 49, .op 50]) (.cond (.tmp 110) (.seq (.ops 12 (opsOf Tryd.f4 12)) (.ret [2])) .skip)) (.seq (.cut [0, 4, 8, 9, 10, 11] (.ops 13 (opsOf Tryd.f4 13))) R)))
noncomputable def bailifflaw02_ScanPieces.u5.f {α : Type} (k : Nat) (x0 : List UInt8) (x1 : Sl) (x2 : Int) (x3 : Int) (x4 : Ad) (x5 : Bool) (kn : List UInt8 → Sl → Int → Ad → Bool → Int → M α) : M α :=
  kn x0 x1 x3 x4 x5 x2
noncomputable def bailifflaw02_ScanPieces.u5.c (R : IC) : IC := (.seq (.cut [0, 4, 9, 10, 11, 12] (.ops 14 (opsOf Tryd.f4 14))) R)
noncomputable def bailifflaw02_ScanPieces.u6.f {α : Type} (k : Nat) (x0 : List UInt8) (x1 : Sl) (x2 : Int) (x3 : Ad) (x4 : Bool) (x5 : Int) (kn : List UInt8 → Sl → Int → Ad → Bool → Int → M α) (kr : Bool → M α) (kx2 : List UInt8 → Sl → Int → Ad → M α) : M α :=
  ldI .i64 ((x3.add 1).add 0) fun x8 =>
  cond (decide (x5 < x8)) (
    cond (x4) (
      idxStr x0 x5 fun c9 =>
      cond (decide (c9 = 10)) (
        kr false) (
        kn x0 x1 x2 x3 true (w64 (x5 + 1)))) (
      idxStr x0 x5 fun c10 =>
      idxStr x0 x5 fun c11 =>
      cond (decide (c11 = 10)) (
        kr false) (
        cond (!(decide (c10 = 35))) (
          idxStr x0 x5 fun c12 =>
          cond (!(decide (c12 = 32))) (
            idxStr x0 x5 fun c13 =>
            cond (!(decide (c13 = 9))) (
              kr false) (
              kn x0 x1 x2 x3 (decide (c10 = 35)) (w64 (x5 + 1)))) (
            kn x0 x1 x2 x3 (decide (c10 = 35)) (w64 (x5 + 1)))) (
          kn x0 x1 x2 x3 (decide (c10 = 35)) (w64 (x5 + 1)))))) (
    kx2 x0 x1 x2 x3)
noncomputable def bailifflaw02_ScanPieces.u6.c : IC := (.seq (.seq (.ops 15 (opsOf Tryd.f4 15)) (.cond (.tmp 115) .skip (.exit 2 [0, 4, 9, 10]))) (.seq (.block 3 (.seq (.ops 17 (opsOf Tryd.f4 17)) (.seq (.ops 18 (opsOf Tryd.f4 18)) (.cond (.tmp 144) (.seq (.ops 19 (opsOf Tryd.f4 19)) (.ret [2])) .skip)))) (.cut [0, 4, 9, 10, 11, 12] (.ops 16 (opsOf Tryd.f4 16)))))
noncomputable def bailifflaw02_ScanPieces.u7.l {α : Type} (k : Nat) (kr : Bool → M α) (kx2 : List UInt8 → Sl → Int → Ad → M α) : Nat → List UInt8 → Sl → Int → Ad → Bool → Int → M α
  | 0, _, _, _, _, _, _ => fail
  | j + 1, x0, x1, x2, x3, x4, x5 =>
    bailifflaw02_ScanPieces.u6.f k x0 x1 x2 x3 x4 x5 (fun y0 y1 y2 y3 y4 y5 => bailifflaw02_ScanPieces.u7.l k kr kx2 j y0 y1 y2 y3 y4 y5) kr kx2
noncomputable abbrev bailifflaw02_ScanPieces.u7.f {α : Type} (k : Nat) (x0 : List UInt8) (x1 : Sl) (x2 : Int) (x3 : Ad) (x4 : Bool) (x5 : Int) (kr : Bool → M α) (kx2 : List UInt8 → Sl → Int → Ad → M α) : M α :=
  bailifflaw02_ScanPieces.u7.l k kr kx2 k x0 x1 x2 x3 x4 x5
noncomputable def bailifflaw02_ScanPieces.u7.c : IC := .loop [0, 4, 9, 10, 11, 12] bailifflaw02_ScanPieces.u6.c
noncomputable abbrev bailifflaw02_ScanPieces.u8.f {α : Type} (k : Nat) (x0 : List UInt8) (x1 : Sl) (x2 : Int) (x3 : Ad) (x4 : Bool) (x5 : Int) (kn : List UInt8 → Sl → Int → Ad → M α) (kr : Bool → M α) : M α :=
  bailifflaw02_ScanPieces.u7.f k x0 x1 x2 x3 x4 x5 kr (fun y0 y1 y2 y3 => kn y0 y1 y2 y3)
noncomputable def bailifflaw02_ScanPieces.u8.c : IC := .block 2 bailifflaw02_ScanPieces.u7.c
noncomputable abbrev bailifflaw02_ScanPieces.u9.f {α : Type} (k : Nat) (x0 : List UInt8) (x1 : Sl) (x2 : Int) (x3 : Int) (x4 : Ad) (x5 : Bool) (kn : List UInt8 → Sl → Int → Ad → M α) (kr : Bool → M α) : M α :=
  bailifflaw02_ScanPieces.u5.f k x0 x1 x2 x3 x4 x5 (fun y0 y1 y2 y3 y4 y5 => bailifflaw02_ScanPieces.u8.f k y0 y1 y2 y3 y4 y5 kn kr)
noncomputable def bailifflaw02_ScanPieces.u9.c : IC := bailifflaw02_ScanPieces.u5.c bailifflaw02_ScanPieces.u8.c
noncomputable def bailifflaw02_ScanPieces.u10.f {α : Type} (k : Nat) (x0 : List UInt8) (x1 : Sl) (x2 : Int) (x3 : Ad) (kn : List UInt8 → Sl → Int → Int → M α) : M α :=
  ldI .i64 ((x3.add 1).add 0) fun x6 =>
  ldStr ((x3.add 2).add 0) fun x7 =>
  kn x0 x1 (w64 (x6 + (x7.length : Int))) x2
noncomputable def bailifflaw02_ScanPieces.u10.c : IC := (.cut [0, 4, 8, 9] (.ops 20 (opsOf Tryd.f4 20)))
noncomputable abbrev bailifflaw02_ScanPieces.u11.f {α : Type} (k : Nat) (x0 : List UInt8) (x1 : Sl) (x2 : Int) (x3 : Int) (x4 : Ad) (x5 : Bool) (kn : List UInt8 → Sl → Int → Int → M α) (kr : Bool → M α) : M α :=
  bailifflaw02_ScanPieces.u9.f k x0 x1 x2 x3 x4 x5 (fun y0 y1 y2 y3 => bailifflaw02_ScanPieces.u10.f k y0 y1 y2 y3 kn) kr
noncomputable def bailifflaw02_ScanPieces.u11.c : IC := (.seq bailifflaw02_ScanPieces.u9.c bailifflaw02_ScanPieces.u10.c)
noncomputable abbrev bailifflaw02_ScanPieces.u12.f {α : Type} (k : Nat) (x0 : List UInt8) (x1 : Sl) (x2 : Int) (x3 : Int) (kn : List UInt8 → Sl → Int → Int → M α) (kr : Bool → M α) : M α :=
  bailifflaw02_ScanPieces.u4.f k x0 x1 x2 x3 (fun y0 y1 y2 y3 y4 y5 => bailifflaw02_ScanPieces.u11.f k y0 y1 y2 y3 y4 y5 kn kr) kr
noncomputable def bailifflaw02_ScanPieces.u12.c : IC := bailifflaw02_ScanPieces.u4.c bailifflaw02_ScanPieces.u11.c
noncomputable abbrev bailifflaw02_ScanPieces.u13.f {α : Type} (k : Nat) (x0 : List UInt8) (x1 : Sl) (x2 : Int) (x3 : Int) (kn : List UInt8 → Sl → Int → Int → M α) (kr : Bool → M α) : M α :=
  bailifflaw02_ScanPieces.u12.f k x0 x1 x2 x3 (fun y0 y1 y2 y3 => kn y0 y1 y2 y3) kr
noncomputable def bailifflaw02_ScanPieces.u13.c : IC := .block 1 bailifflaw02_ScanPieces.u12.c
noncomputable def bailifflaw02_ScanPieces.u14.f {α : Type} (k : Nat) (x0 : List UInt8) (x1 : Sl) (x2 : Int) (x3 : Int) (kn : List UInt8 → Sl → Int → Int → M α) : M α :=
  kn x0 x1 x2 (w64 (x3 + 1))
noncomputable def bailifflaw02_ScanPieces.u14.c : IC := (.cut [0, 4, 8, 9] (.ops 9 (opsOf Tryd.f4 9)))
noncomputable abbrev bailifflaw02_ScanPieces.u15.f {α : Type} (k : Nat) (x0 : List UInt8) (x1 : Sl) (x2 : Int) (x3 : Int) (kn : List UInt8 → Sl → Int → Int → M α) (kr : Bool → M α) : M α :=
  bailifflaw02_ScanPieces.u13.f k x0 x1 x2 x3 (fun y0 y1 y2 y3 => bailifflaw02_ScanPieces.u14.f k y0 y1 y2 y3 kn) kr
noncomputable def bailifflaw02_ScanPieces.u15.c : IC := (.seq bailifflaw02_ScanPieces.u13.c bailifflaw02_ScanPieces.u14.c)
noncomputable abbrev bailifflaw02_ScanPieces.u16.f {α : Type} (k : Nat) (x0 : List UInt8) (x1 : Sl) (x2 : Int) (x3 : Int) (kn : List UInt8 → Sl → Int → Int → M α) (kr : Bool → M α) (kx0 : List UInt8 → Sl → Int → M α) : M α :=
  bailifflaw02_ScanPieces.u3.f k x0 x1 x2 x3 (fun y0 y1 y2 y3 => bailifflaw02_ScanPieces.u15.f k y0 y1 y2 y3 kn kr) kx0
noncomputable def bailifflaw02_ScanPieces.u16.c : IC := bailifflaw02_ScanPieces.u3.c bailifflaw02_ScanPieces.u15.c
noncomputable def bailifflaw02_ScanPieces.u17.l {α : Type} (k : Nat) (kr : Bool → M α) (kx0 : List UInt8 → Sl → Int → M α) : Nat → List UInt8 → Sl → Int → Int → M α
  | 0, _, _, _, _ => fail
  | j + 1, x0, x1, x2, x3 =>
    bailifflaw02_ScanPieces.u16.f k x0 x1 x2 x3 (fun y0 y1 y2 y3 => bailifflaw02_ScanPieces.u17.l k kr kx0 j y0 y1 y2 y3) kr kx0
noncomputable abbrev bailifflaw02_ScanPieces.u17.f {α : Type} (k : Nat) (x0 : List UInt8) (x1 : Sl) (x2 : Int) (x3 : Int) (kr : Bool → M α) (kx0 : List UInt8 → Sl → Int → M α) : M α :=
  bailifflaw02_ScanPieces.u17.l k kr kx0 k x0 x1 x2 x3
noncomputable def bailifflaw02_ScanPieces.u17.c : IC := .loop [0, 4, 8, 9] bailifflaw02_ScanPieces.u16.c
noncomputable abbrev bailifflaw02_ScanPieces.u18.f {α : Type} (k : Nat) (x0 : List UInt8) (x1 : Sl) (x2 : Int) (x3 : Int) (kn : List UInt8 → Sl → Int → M α) (kr : Bool → M α) : M α :=
  bailifflaw02_ScanPieces.u17.f k x0 x1 x2 x3 kr (fun y0 y1 y2 => kn y0 y1 y2)
noncomputable def bailifflaw02_ScanPieces.u18.c : IC := .block 0 bailifflaw02_ScanPieces.u17.c
noncomputable abbrev bailifflaw02_ScanPieces.u19.f {α : Type} (k : Nat) (x0 : List UInt8) (x1 : Sl) (x2 : Int) (kn : List UInt8 → Sl → Int → M α) (kr : Bool → M α) : M α :=
  bailifflaw02_ScanPieces.u2.f k x0 x1 x2 (fun y0 y1 y2 y3 => bailifflaw02_ScanPieces.u18.f k y0 y1 y2 y3 kn kr)
noncomputable def bailifflaw02_ScanPieces.u19.c : IC := bailifflaw02_ScanPieces.u2.c bailifflaw02_ScanPieces.u18.c
noncomputable def bailifflaw02_ScanPieces.u20.f {α : Type} (k : Nat) (x0 : List UInt8) (x1 : Sl) (x2 : Int) (kr : Bool → M α) : M α :=
  cond (decide (0 < (x1.len : Int))) (
    kr (decide (x2 = (x0.length : Int)))) (
    kr false)
noncomputable def bailifflaw02_ScanPieces.u20.c : IC := (.seq (.ops 21 (opsOf Tryd.f4 21)) (.ret [2]))
noncomputable abbrev bailifflaw02_ScanPieces.u21.f {α : Type} (k : Nat) (x0 : List UInt8) (x1 : Sl) (x2 : Int) (kr : Bool → M α) : M α :=
  bailifflaw02_ScanPieces.u19.f k x0 x1 x2 (fun y0 y1 y2 => bailifflaw02_ScanPieces.u20.f k y0 y1 y2 kr) kr
noncomputable def bailifflaw02_ScanPieces.u21.c : IC := (.seq bailifflaw02_ScanPieces.u19.c bailifflaw02_ScanPieces.u20.c)
noncomputable abbrev bailifflaw02_ScanPieces.u22.f {α : Type} (k : Nat) (x0 : List UInt8) (kr : Bool → M α) : M α :=
  bailifflaw02_ScanPieces.u1.f k x0 (fun y0 y1 y2 => bailifflaw02_ScanPieces.u21.f k y0 y1 y2 kr) kr
noncomputable def bailifflaw02_ScanPieces.u22.c : IC := bailifflaw02_ScanPieces.u1.c bailifflaw02_ScanPieces.u21.c
noncomputable def bailifflaw02_ScanPieces.f {α : Type} : Nat → List UInt8 → (Bool → M α) → M α
  | 0, _, _ => fail
  | k + 1, x0, ret =>
    bailifflaw02_ScanPieces.u22.f k x0 (fun y0 =>
      ret y0)

noncomputable def bailifflaw02_ScanJoins.u1.f {α : Type} (k : Nat) (x0 : List UInt8) (x1 : List UInt8) (kr : Bool → M α) : M α :=
  bailifflaw02_shown.f k fun r4 =>
  scan_All.f k x0 fun r5 r6 =>
  scan_All.f k x1 fun r7 r8 =>
  cat x0 [10] fun x9 =>
  cat x9 x1 fun x10 =>
  scan_All.f k x10 fun r11 r12 =>
  bailifflaw02_fault.f k r12 fun r13 r14 =>
  cond (!r4) (
    kr false) (
    cond (decide (262144 < w64 ((w64 ((x0.length : Int) + 1)) + (x1.length : Int)))) (
      cond (decide (r13 = 262144)) (
        kr (decide (r14 = 2))) (
        kr false)) (
      asNil r6 fun b15 =>
      cond (!b15) (
        bailifflaw02_fault.f k r6 fun r16 r17 =>
        cond (decide (r13 = r16)) (
          kr (decide (r14 = r17))) (
          kr false)) (
        asNil r8 fun b18 =>
        cond (!b18) (
          bailifflaw02_fault.f k r8 fun r19 r20 =>
          cond (decide (r13 = w64 ((w64 ((x0.length : Int) + 1)) + r19))) (
            kr (decide (r14 = r20))) (
            kr false)) (
          cond (decide ((r5.len : Int) = 0)) (
            kr false) (
            cond (!(decide ((r11.len : Int) = w64 ((r5.len : Int) + (r7.len : Int))))) (
              kr false) (
              cutSl r5 4 none (some (w64 ((r5.len : Int) - 1))) none fun x21 =>
              cutSl r11 4 none (some (w64 ((r5.len : Int) - 1))) none fun x22 =>
              bailifflaw02_same.f k x21 x22 0 fun r23 =>
              cond (r23) (
                idxSl r11 (w64 ((r5.len : Int) - 1)) 4 fun a24 =>
                ldI .i64 (a24.add 0) fun x25 =>
                ldI .i64 (a24.add 1) fun x26 =>
                ldStr (a24.add 2) fun x27 =>
                ldI .i64 (a24.add 3) fun x28 =>
                cond ((decide (x25 = 1) && (decide (x26 = (x0.length : Int)) && (decide (x27 = [10]) && (decide (x28 = 0) && true))))) (
                  cutSl r11 4 (some (w64 ((w64 ((r5.len : Int) - 1)) + 1))) none none fun x29 =>
                  bailifflaw02_same.f k r7 x29 (w64 ((x0.length : Int) + 1)) fun r30 =>
                  kr r30) (
                  kr false)) (
                kr false)))))))
noncomputable def bailifflaw02_ScanJoins.u1.c : IC := (.seq (.ops 0 (opsOf Tryd.f5 0)) (.seq (.ops 1 (opsOf Tryd.f5 1)) (.seq (.ops 2 (opsOf Tryd.f5 2)) (.seq (.ops 3 (opsOf Tryd.f5 3)) (.seq (.ops 4 (opsOf Tryd.f5 4)) (.seq (.ops 5 (opsOf Tryd.f5 5)) (.seq (.seq (.ops 6 (opsOf Tryd.f5 6)) (.cond (.tmp 44) (.seq (.ops 7 (opsOf Tryd.f5 7)) (.ret [4])) .skip)) (.seq (.seq (.ops 8 (opsOf Tryd.f5 8)) (.cond (.tmp 51) (.seq (.ops 9 (opsOf Tryd.f5 9)) (.ret [4])) .skip)) (.seq (.seq (.ops 10 (opsOf Tryd.f5 10)) (.cond (.tmp 59) (.seq (.ops 11 (opsOf Tryd.f5 11)) (.seq (.ops 12 (opsOf Tryd.f5 12)) (.ret [4]))) .skip)) (.seq (.seq (.ops 13 (opsOf Tryd.f5 13)) (.cond (.tmp 74) (.seq (.ops 14 (opsOf Tryd.f5 14)) (.seq (.ops 15 (opsOf Tryd.f5 15)) (.ret [4]))) .skip)) (.seq (.seq (.ops 16 (opsOf Tryd.f5 16)) (.cond (.tmp 104) (.seq (.ops 17 (opsOf Tryd.f5 17)) (.ret [4])) .skip)) (.seq (.ops 18 (opsOf Tryd.f5 18)) (.seq (.drawn 19 (opsOf Tryd.f5 19) true [.op 0, .op 1, .op 2, .op 3, .op 4, .op 5, .op 6, .op 7, .op 8, .op 9, .op 10, .op 11, .op 12, .op 13, .op 14, .op 15, .op 16, .op 17, .op 18, .op 19, .op 20, .op 21, .op 22, .op 23, .op 24, .op 25, .op 26, .op 27, .op 28]) (.ret [4]))))))))))))))
noncomputable def bailifflaw02_ScanJoins.f {α : Type} : Nat → List UInt8 → List UInt8 → (Bool → M α) → M α
  | 0, _, _, _ => fail
  | k + 1, x0, x1, ret =>
    bailifflaw02_ScanJoins.u1.f k x0 x1 (fun y0 =>
      ret y0)

noncomputable def bailifflaw02_ScanNames.u1.f {α : Type} (k : Nat) (x0 : Int) (x1 : List UInt8) (x2 : Int) (kn : Int → List UInt8 → Int → Bool → List UInt8 → M α) : M α :=
  bailifflaw02_shown.f k fun r5 =>
  new [.int .u8 x0] fun r6 =>
  rdSl (⟨some r6, 1, 1, none⟩ : Sl) 1 fun cs7 =>
  toStr cs7 fun x8 =>
  kn x0 x1 x2 r5 x8
noncomputable def bailifflaw02_ScanNames.u1.c (R : IC) : IC := (.seq (.ops 0 (opsOf Tryd.f6 0)) (.seq (.ops 1 (opsOf Tryd.f6 1)) (.seq (.cut [0, 1, 2, 7, 8] (.ops 2 (opsOf Tryd.f6 2))) R)))
noncomputable def bailifflaw02_ScanNames.u2.f {α : Type} (k : Nat) (x0 : Int) (x1 : List UInt8) (x2 : Int) (x3 : Bool) (x4 : List UInt8) (kn : Int → List UInt8 → Int → Bool → List UInt8 → Int → M α) : M α :=
  kn x0 x1 x2 x3 x4 0
noncomputable def bailifflaw02_ScanNames.u2.c (R : IC) : IC := (.seq (.cut [0, 1, 2, 7, 8, 9] (.ops 3 (opsOf Tryd.f6 3))) R)
noncomputable def bailifflaw02_ScanNames.u3.f {α : Type} (k : Nat) (x0 : Int) (x1 : List UInt8) (x2 : Int) (x3 : Bool) (x4 : List UInt8) (x5 : Int) (kn : Int → List UInt8 → Int → Bool → List UInt8 → Int → M α) (kx0 : Int → Int → Bool → List UInt8 → M α) : M α :=
  cond (decide (x5 < (x1.length : Int))) (
    idxStr x1 x5 fun c8 =>
    idxStr [97, 98, 122, 65, 90, 95, 48, 53, 57] (Int.tmod c8 9) fun c9 =>
    new [.int .u8 c9] fun r10 =>
    rdSl (⟨some r10, 1, 1, none⟩ : Sl) 1 fun cs11 =>
    toStr cs11 fun x12 =>
    cat x4 x12 fun x13 =>
    kn x0 x1 x2 x3 x13 (w64 (x5 + 1))) (
    kx0 x0 x2 x3 x4)
noncomputable def bailifflaw02_ScanNames.u3.c : IC := (.seq (.seq (.ops 4 (opsOf Tryd.f6 4)) (.cond (.tmp 33) .skip (.exit 0 [0, 2, 7, 8]))) (.seq (.block 1 (.ops 6 (opsOf Tryd.f6 6))) (.cut [0, 1, 2, 7, 8, 9] (.ops 5 (opsOf Tryd.f6 5)))))
noncomputable def bailifflaw02_ScanNames.u4.l {α : Type} (k : Nat) (kx0 : Int → Int → Bool → List UInt8 → M α) : Nat → Int → List UInt8 → Int → Bool → List UInt8 → Int → M α
  | 0, _, _, _, _, _, _ => fail
  | j + 1, x0, x1, x2, x3, x4, x5 =>
    bailifflaw02_ScanNames.u3.f k x0 x1 x2 x3 x4 x5 (fun y0 y1 y2 y3 y4 y5 => bailifflaw02_ScanNames.u4.l k kx0 j y0 y1 y2 y3 y4 y5) kx0
noncomputable abbrev bailifflaw02_ScanNames.u4.f {α : Type} (k : Nat) (x0 : Int) (x1 : List UInt8) (x2 : Int) (x3 : Bool) (x4 : List UInt8) (x5 : Int) (kx0 : Int → Int → Bool → List UInt8 → M α) : M α :=
  bailifflaw02_ScanNames.u4.l k kx0 k x0 x1 x2 x3 x4 x5
noncomputable def bailifflaw02_ScanNames.u4.c : IC := .loop [0, 1, 2, 7, 8, 9] bailifflaw02_ScanNames.u3.c
noncomputable abbrev bailifflaw02_ScanNames.u5.f {α : Type} (k : Nat) (x0 : Int) (x1 : List UInt8) (x2 : Int) (x3 : Bool) (x4 : List UInt8) (x5 : Int) (kn : Int → Int → Bool → List UInt8 → M α) : M α :=
  bailifflaw02_ScanNames.u4.f k x0 x1 x2 x3 x4 x5 (fun y0 y1 y2 y3 => kn y0 y1 y2 y3)
noncomputable def bailifflaw02_ScanNames.u5.c : IC := .block 0 bailifflaw02_ScanNames.u4.c
noncomputable abbrev bailifflaw02_ScanNames.u6.f {α : Type} (k : Nat) (x0 : Int) (x1 : List UInt8) (x2 : Int) (x3 : Bool) (x4 : List UInt8) (kn : Int → Int → Bool → List UInt8 → M α) : M α :=
  bailifflaw02_ScanNames.u2.f k x0 x1 x2 x3 x4 (fun y0 y1 y2 y3 y4 y5 => bailifflaw02_ScanNames.u5.f k y0 y1 y2 y3 y4 y5 kn)
noncomputable def bailifflaw02_ScanNames.u6.c : IC := bailifflaw02_ScanNames.u2.c bailifflaw02_ScanNames.u5.c
noncomputable def bailifflaw02_ScanNames.u7.f {α : Type} (k : Nat) (x0 : Int) (x1 : Int) (x2 : Bool) (x3 : List UInt8) (kn : Int → Int → Bool → List UInt8 → Sl → V → Int → Int → Bool → M α) : M α :=
  scan_All.f k x3 fun r6 r7 =>
  bailifflaw02_fault.f k r7 fun r8 r9 =>
  cond (decide (97 ≤ x0)) (
    kn x0 x1 x2 x3 r6 r7 r8 r9 (decide (x0 ≤ 122))) (
    kn x0 x1 x2 x3 r6 r7 r8 r9 false)
noncomputable def bailifflaw02_ScanNames.u7.c (R : IC) : IC := (.seq (.ops 7 (opsOf Tryd.f6 7)) (.seq (.ops 8 (opsOf Tryd.f6 8)) (.seq (.cut [0, 2, 7, 8, 10, 11, 12, 13, 14] (.ops 9 (opsOf Tryd.f6 9))) R)))
noncomputable def bailifflaw02_ScanNames.u8.f {α : Type} (k : Nat) (x0 : Int) (x1 : Int) (x2 : Bool) (x3 : List UInt8) (x4 : Sl) (x5 : V) (x6 : Int) (x7 : Int) (x8 : Bool) (kn : Int → Bool → List UInt8 → Sl → V → Int → Int → Bool → Bool → M α) : M α :=
  cond (decide (65 ≤ x0)) (
    kn x1 x2 x3 x4 x5 x6 x7 x8 (decide (x0 ≤ 90))) (
    kn x1 x2 x3 x4 x5 x6 x7 x8 false)
noncomputable def bailifflaw02_ScanNames.u8.c (R : IC) : IC := (.seq (.cut [2, 7, 8, 10, 11, 12, 13, 14, 15] (.ops 10 (opsOf Tryd.f6 10))) R)
noncomputable def bailifflaw02_ScanNames.u9.f {α : Type} (k : Nat) (x0 : Int) (x1 : Bool) (x2 : List UInt8) (x3 : Sl) (x4 : V) (x5 : Int) (x6 : Int) (x7 : Bool) (x8 : Bool) (kn : Int → Bool → M α) (kr : Bool → M α) : M α :=
  cond (x7) (
    cond (x7) (
      cond (decide (262144 < (x2.length : Int))) (
        cond (!(decide (x5 = 262144))) (
          kr false) (
          cond (!(decide (x6 = 2))) (
            kr false) (
            kn x0 x1))) (
        cond (decide (8 < (x2.length : Int))) (
          cond (!(decide (x5 = 0))) (
            kr false) (
            cond (!(decide (x6 = 5))) (
              kr false) (
              kn x0 x1))) (
          asNil x4 fun b11 =>
          cond (!b11) (
            kr false) (
            cond (!(decide ((x3.len : Int) = 2))) (
              kr false) (
              idxSl x3 0 4 fun a12 =>
              ldI .i64 (a12.add 0) fun x13 =>
              ldI .i64 (a12.add 1) fun x14 =>
              ldStr (a12.add 2) fun x15 =>
              ldI .i64 (a12.add 3) fun x16 =>
              cond (!((decide (x13 = 2) && (decide (x14 = 0) && (decide (x15 = x2) && (decide (x16 = 0) && true)))))) (
                kr false) (
                kn x0 x1)))))) (
      cond (decide (262144 < (x2.length : Int))) (
        cond (!(decide (x5 = 262144))) (
          kr false) (
          cond (!(decide (x6 = 2))) (
            kr false) (
            kn x0 x1))) (
        cond (decide (8 < (x2.length : Int))) (
          cond (!(decide (x5 = 0))) (
            kr false) (
            cond (!(decide (x6 = 5))) (
              kr false) (
              kn x0 x1))) (
          asNil x4 fun b17 =>
          cond (!b17) (
            kr false) (
            cond (!(decide ((x3.len : Int) = 2))) (
              kr false) (
              idxSl x3 0 4 fun a18 =>
              ldI .i64 (a18.add 0) fun x19 =>
              ldI .i64 (a18.add 1) fun x20 =>
              ldStr (a18.add 2) fun x21 =>
              ldI .i64 (a18.add 3) fun x22 =>
              cond (!((decide (x19 = 3) && (decide (x20 = 0) && (decide (x21 = x2) && (decide (x22 = 0) && true)))))) (
                kr false) (
                kn x0 x1))))))) (
    cond (x8) (
      cond (x7) (
        cond (decide (262144 < (x2.length : Int))) (
          cond (!(decide (x5 = 262144))) (
            kr false) (
            cond (!(decide (x6 = 2))) (
              kr false) (
              kn x0 x1))) (
          cond (decide (8 < (x2.length : Int))) (
            cond (!(decide (x5 = 0))) (
              kr false) (
              cond (!(decide (x6 = 5))) (
                kr false) (
                kn x0 x1))) (
            asNil x4 fun b23 =>
            cond (!b23) (
              kr false) (
              cond (!(decide ((x3.len : Int) = 2))) (
                kr false) (
                idxSl x3 0 4 fun a24 =>
                ldI .i64 (a24.add 0) fun x25 =>
                ldI .i64 (a24.add 1) fun x26 =>
                ldStr (a24.add 2) fun x27 =>
                ldI .i64 (a24.add 3) fun x28 =>
                cond (!((decide (x25 = 2) && (decide (x26 = 0) && (decide (x27 = x2) && (decide (x28 = 0) && true)))))) (
                  kr false) (
                  kn x0 x1)))))) (
        cond (decide (262144 < (x2.length : Int))) (
          cond (!(decide (x5 = 262144))) (
            kr false) (
            cond (!(decide (x6 = 2))) (
              kr false) (
              kn x0 x1))) (
          cond (decide (8 < (x2.length : Int))) (
            cond (!(decide (x5 = 0))) (
              kr false) (
              cond (!(decide (x6 = 5))) (
                kr false) (
                kn x0 x1))) (
            asNil x4 fun b29 =>
            cond (!b29) (
              kr false) (
              cond (!(decide ((x3.len : Int) = 2))) (
                kr false) (
                idxSl x3 0 4 fun a30 =>
                ldI .i64 (a30.add 0) fun x31 =>
                ldI .i64 (a30.add 1) fun x32 =>
                ldStr (a30.add 2) fun x33 =>
                ldI .i64 (a30.add 3) fun x34 =>
                cond (!((decide (x31 = 3) && (decide (x32 = 0) && (decide (x33 = x2) && (decide (x34 = 0) && true)))))) (
                  kr false) (
                  kn x0 x1))))))) (
      kn x0 x1))
noncomputable def bailifflaw02_ScanNames.u9.c (R : IC) : IC := (.seq (.cut [2, 7] (.seq (.ops 11 (opsOf Tryd.f6 11)) (.cond (.tmp 70) (.seq (.ops 12 (opsOf Tryd.f6 12)) (.seq (.seq (.ops 13 (opsOf Tryd.f6 13)) (.cond (.tmp 71) (.ops 14 (opsOf Tryd.f6 14)) .skip)) (.block 2 (.seq (.ops 17 (opsOf Tryd.f6 17)) (.cond (.tmp 88) (.seq (.ops 18 (opsOf Tryd.f6 18)) (.cond (.tmp 97) (.seq (.ops 19 (opsOf Tryd.f6 19)) (.ret [6])) .skip)) (.seq (.ops 20 (opsOf Tryd.f6 20)) (.cond (.tmp 98) (.seq (.ops 21 (opsOf Tryd.f6 21)) (.cond (.tmp 107) (.seq (.ops 22 (opsOf Tryd.f6 22)) (.ret [6])) .skip)) (.seq (.ops 15 (opsOf Tryd.f6 15)) (.cond (.tmp 87) (.seq (.ops 16 (opsOf Tryd.f6 16)) (.ret [6])) .skip))))))))) .skip))) R)
noncomputable def bailifflaw02_ScanNames.u10.f {α : Type} (k : Nat) (x0 : Int) (x1 : Bool) (kn : Int → Bool → M α) : M α :=
  cond (decide (x0 < 0)) (
    kn (w64 (0 - w64 (x0 + 1))) x1) (
    kn x0 x1)
noncomputable def bailifflaw02_ScanNames.u10.c (R : IC) : IC := (.seq (.cut [2, 7] (.seq (.ops 23 (opsOf Tryd.f6 23)) (.cond (.tmp 109) (.ops 24 (opsOf Tryd.f6 24)) .skip))) R)
noncomputable def bailifflaw02_ScanNames.u11.f {α : Type} (k : Nat) (x0 : Int) (x1 : Bool) (kn : Int → Bool → List UInt8 → M α) : M α :=
  new [.int .u8 (IntKind.wrap .u8 (w64 (48 + (w64 (Int.tdiv (Int.tmod x0 20000) 10000))))), .int .u8 (IntKind.wrap .u8 (w64 (48 + (Int.tmod (w64 (Int.tdiv (Int.tmod x0 20000) 1000)) 10)))), .int .u8 (IntKind.wrap .u8 (w64 (48 + (Int.tmod (w64 (Int.tdiv (Int.tmod x0 20000) 100)) 10)))), .int .u8 (IntKind.wrap .u8 (w64 (48 + (Int.tmod (w64 (Int.tdiv (Int.tmod x0 20000) 10)) 10)))), .int .u8 (IntKind.wrap .u8 (w64 (48 + (Int.tmod (Int.tmod x0 20000) 10))))] fun r4 =>
  rdSl (⟨some r4, 5, 5, none⟩ : Sl) 1 fun cs5 =>
  toStr cs5 fun x6 =>
  kn (Int.tmod x0 20000) x1 x6
noncomputable def bailifflaw02_ScanNames.u11.c (R : IC) : IC := (.seq (.ops 25 (opsOf Tryd.f6 25)) (.seq (.cut [2, 7, 17] (.ops 26 (opsOf Tryd.f6 26))) R))
noncomputable def bailifflaw02_ScanNames.u12.f {α : Type} (k : Nat) (x0 : Int) (x1 : Bool) (x2 : List UInt8) (kn : Int → Bool → List UInt8 → M α) (kr : Bool → M α) (kx3 : Int → Bool → List UInt8 → M α) : M α :=
  cond (decide (1 < (x2.length : Int))) (
    idxStr x2 0 fun c5 =>
    cond (decide (c5 = 48)) (
      scan_All.f k x2 fun r6 r7 =>
      bailifflaw02_fault.f k r7 fun r8 r9 =>
      cond (decide (0 < (r6.len : Int))) (
        kr false) (
        cond (!(decide (r8 = 0))) (
          kr false) (
          cond (!(decide (r9 = 4))) (
            kr false) (
            cutStr x2 (some 1) none fun x10 =>
            kn x0 x1 x10)))) (
      kx3 x0 x1 x2)) (
    kx3 x0 x1 x2)
noncomputable def bailifflaw02_ScanNames.u12.c : IC := (.seq (.seq (.ops 27 (opsOf Tryd.f6 27)) (.cond (.tmp 147) .skip (.exit 3 [2, 7, 17]))) (.cut [2, 7, 17] (.block 4 (.seq (.ops 28 (opsOf Tryd.f6 28)) (.seq (.ops 29 (opsOf Tryd.f6 29)) (.seq (.seq (.ops 30 (opsOf Tryd.f6 30)) (.cond (.tmp 168) (.seq (.ops 31 (opsOf Tryd.f6 31)) (.ret [6])) .skip)) (.ops 32 (opsOf Tryd.f6 32))))))))
noncomputable def bailifflaw02_ScanNames.u13.l {α : Type} (k : Nat) (kr : Bool → M α) (kx3 : Int → Bool → List UInt8 → M α) : Nat → Int → Bool → List UInt8 → M α
  | 0, _, _, _ => fail
  | j + 1, x0, x1, x2 =>
    bailifflaw02_ScanNames.u12.f k x0 x1 x2 (fun y0 y1 y2 => bailifflaw02_ScanNames.u13.l k kr kx3 j y0 y1 y2) kr kx3
noncomputable abbrev bailifflaw02_ScanNames.u13.f {α : Type} (k : Nat) (x0 : Int) (x1 : Bool) (x2 : List UInt8) (kr : Bool → M α) (kx3 : Int → Bool → List UInt8 → M α) : M α :=
  bailifflaw02_ScanNames.u13.l k kr kx3 k x0 x1 x2
noncomputable def bailifflaw02_ScanNames.u13.c : IC := .loop [2, 7, 17] bailifflaw02_ScanNames.u12.c
noncomputable abbrev bailifflaw02_ScanNames.u14.f {α : Type} (k : Nat) (x0 : Int) (x1 : Bool) (x2 : List UInt8) (kn : Int → Bool → List UInt8 → M α) (kr : Bool → M α) : M α :=
  bailifflaw02_ScanNames.u13.f k x0 x1 x2 kr (fun y0 y1 y2 => kn y0 y1 y2)
noncomputable def bailifflaw02_ScanNames.u14.c : IC := .block 3 bailifflaw02_ScanNames.u13.c
noncomputable def bailifflaw02_ScanNames.u15.f {α : Type} (k : Nat) (x0 : Int) (x1 : Bool) (x2 : List UInt8) (kr : Bool → M α) : M α :=
  scan_All.f k x2 fun r5 r6 =>
  bailifflaw02_fault.f k r6 fun r7 r8 =>
  cond (decide (9999 < x0)) (
    cond (x1) (
      cond (decide (r7 = 0)) (
        cond (decide (r8 = 4)) (
          kr (decide ((r5.len : Int) = 0))) (
          kr false)) (
        kr false)) (
      kr false)) (
    cond (x1) (
      asNil r6 fun b9 =>
      cond (b9) (
        cond (decide ((r5.len : Int) = 2)) (
          idxSl r5 0 4 fun a10 =>
          ldI .i64 (a10.add 0) fun x11 =>
          ldI .i64 (a10.add 1) fun x12 =>
          ldStr (a10.add 2) fun x13 =>
          ldI .i64 (a10.add 3) fun x14 =>
          kr ((decide (x11 = 4) && (decide (x12 = 0) && (decide (x13 = x2) && (decide (x14 = x0) && true)))))) (
          kr false)) (
        kr false)) (
      kr false))
noncomputable def bailifflaw02_ScanNames.u15.c : IC := (.seq (.ops 33 (opsOf Tryd.f6 33)) (.seq (.ops 34 (opsOf Tryd.f6 34)) (.seq (.seq (.ops 35 (opsOf Tryd.f6 35)) (.cond (.tmp 182) (.seq (.ops 36 (opsOf Tryd.f6 36)) (.ret [6])) .skip)) (.seq (.ops 37 (opsOf Tryd.f6 37)) (.ret [6])))))
noncomputable abbrev bailifflaw02_ScanNames.u16.f {α : Type} (k : Nat) (x0 : Int) (x1 : Bool) (x2 : List UInt8) (kr : Bool → M α) : M α :=
  bailifflaw02_ScanNames.u14.f k x0 x1 x2 (fun y0 y1 y2 => bailifflaw02_ScanNames.u15.f k y0 y1 y2 kr) kr
noncomputable def bailifflaw02_ScanNames.u16.c : IC := (.seq bailifflaw02_ScanNames.u14.c bailifflaw02_ScanNames.u15.c)
noncomputable abbrev bailifflaw02_ScanNames.u17.f {α : Type} (k : Nat) (x0 : Int) (x1 : Bool) (kr : Bool → M α) : M α :=
  bailifflaw02_ScanNames.u11.f k x0 x1 (fun y0 y1 y2 => bailifflaw02_ScanNames.u16.f k y0 y1 y2 kr)
noncomputable def bailifflaw02_ScanNames.u17.c : IC := bailifflaw02_ScanNames.u11.c bailifflaw02_ScanNames.u16.c
noncomputable abbrev bailifflaw02_ScanNames.u18.f {α : Type} (k : Nat) (x0 : Int) (x1 : Bool) (kr : Bool → M α) : M α :=
  bailifflaw02_ScanNames.u10.f k x0 x1 (fun y0 y1 => bailifflaw02_ScanNames.u17.f k y0 y1 kr)
noncomputable def bailifflaw02_ScanNames.u18.c : IC := bailifflaw02_ScanNames.u10.c bailifflaw02_ScanNames.u17.c
noncomputable abbrev bailifflaw02_ScanNames.u19.f {α : Type} (k : Nat) (x0 : Int) (x1 : Bool) (x2 : List UInt8) (x3 : Sl) (x4 : V) (x5 : Int) (x6 : Int) (x7 : Bool) (x8 : Bool) (kr : Bool → M α) : M α :=
  bailifflaw02_ScanNames.u9.f k x0 x1 x2 x3 x4 x5 x6 x7 x8 (fun y0 y1 => bailifflaw02_ScanNames.u18.f k y0 y1 kr) kr
noncomputable def bailifflaw02_ScanNames.u19.c : IC := bailifflaw02_ScanNames.u9.c bailifflaw02_ScanNames.u18.c
noncomputable abbrev bailifflaw02_ScanNames.u20.f {α : Type} (k : Nat) (x0 : Int) (x1 : Int) (x2 : Bool) (x3 : List UInt8) (x4 : Sl) (x5 : V) (x6 : Int) (x7 : Int) (x8 : Bool) (kr : Bool → M α) : M α :=
  bailifflaw02_ScanNames.u8.f k x0 x1 x2 x3 x4 x5 x6 x7 x8 (fun y0 y1 y2 y3 y4 y5 y6 y7 y8 => bailifflaw02_ScanNames.u19.f k y0 y1 y2 y3 y4 y5 y6 y7 y8 kr)
noncomputable def bailifflaw02_ScanNames.u20.c : IC := bailifflaw02_ScanNames.u8.c bailifflaw02_ScanNames.u19.c
noncomputable abbrev bailifflaw02_ScanNames.u21.f {α : Type} (k : Nat) (x0 : Int) (x1 : Int) (x2 : Bool) (x3 : List UInt8) (kr : Bool → M α) : M α :=
  bailifflaw02_ScanNames.u7.f k x0 x1 x2 x3 (fun y0 y1 y2 y3 y4 y5 y6 y7 y8 => bailifflaw02_ScanNames.u20.f k y0 y1 y2 y3 y4 y5 y6 y7 y8 kr)
noncomputable def bailifflaw02_ScanNames.u21.c : IC := bailifflaw02_ScanNames.u7.c bailifflaw02_ScanNames.u20.c
noncomputable abbrev bailifflaw02_ScanNames.u22.f {α : Type} (k : Nat) (x0 : Int) (x1 : List UInt8) (x2 : Int) (x3 : Bool) (x4 : List UInt8) (kr : Bool → M α) : M α :=
  bailifflaw02_ScanNames.u6.f k x0 x1 x2 x3 x4 (fun y0 y1 y2 y3 => bailifflaw02_ScanNames.u21.f k y0 y1 y2 y3 kr)
noncomputable def bailifflaw02_ScanNames.u22.c : IC := (.seq bailifflaw02_ScanNames.u6.c bailifflaw02_ScanNames.u21.c)
noncomputable abbrev bailifflaw02_ScanNames.u23.f {α : Type} (k : Nat) (x0 : Int) (x1 : List UInt8) (x2 : Int) (kr : Bool → M α) : M α :=
  bailifflaw02_ScanNames.u1.f k x0 x1 x2 (fun y0 y1 y2 y3 y4 => bailifflaw02_ScanNames.u22.f k y0 y1 y2 y3 y4 kr)
noncomputable def bailifflaw02_ScanNames.u23.c : IC := bailifflaw02_ScanNames.u1.c bailifflaw02_ScanNames.u22.c
noncomputable def bailifflaw02_ScanNames.f {α : Type} : Nat → Int → List UInt8 → Int → (Bool → M α) → M α
  | 0, _, _, _, _ => fail
  | k + 1, x0, x1, x2, ret =>
    bailifflaw02_ScanNames.u23.f k x0 x1 x2 (fun y0 =>
      ret y0)

noncomputable def bailifflaw02_ScanSigns.u1.f {α : Type} (k : Nat) (x0 : Int) (kn : Int → Bool → Sl → V → Int → M α) (kr : Bool → M α) : M α :=
  bailifflaw02_shown.f k fun r3 =>
  new [.int .u8 x0] fun r4 =>
  rdSl (⟨some r4, 1, 1, none⟩ : Sl) 1 fun cs5 =>
  toStr cs5 fun x6 =>
  scan_All.f k x6 fun r7 r8 =>
  bailifflaw02_fault.f k r8 fun r9 r10 =>
  cond (decide (x0 = 32)) (
    cond (r3) (
      asNil r8 fun b11 =>
      cond (b11) (
        cond (decide ((r7.len : Int) = 1)) (
          idxSl r7 0 4 fun a12 =>
          ldI .i64 (a12.add 0) fun x13 =>
          ldI .i64 (a12.add 1) fun x14 =>
          ldStr (a12.add 2) fun x15 =>
          ldI .i64 (a12.add 3) fun x16 =>
          kr ((decide (x13 = 0) && (decide (x14 = 1) && (decide (x15 = []) && (decide (x16 = 0) && true)))))) (
          kr false)) (
        kr false)) (
      kr false)) (
    cond (decide (x0 = 9)) (
      cond (r3) (
        asNil r8 fun b17 =>
        cond (b17) (
          cond (decide ((r7.len : Int) = 1)) (
            idxSl r7 0 4 fun a18 =>
            ldI .i64 (a18.add 0) fun x19 =>
            ldI .i64 (a18.add 1) fun x20 =>
            ldStr (a18.add 2) fun x21 =>
            ldI .i64 (a18.add 3) fun x22 =>
            kr ((decide (x19 = 0) && (decide (x20 = 1) && (decide (x21 = []) && (decide (x22 = 0) && true)))))) (
            kr false)) (
          kr false)) (
        kr false)) (
      cond (decide (x0 = 35)) (
        cond (r3) (
          asNil r8 fun b23 =>
          cond (b23) (
            cond (decide ((r7.len : Int) = 1)) (
              idxSl r7 0 4 fun a24 =>
              ldI .i64 (a24.add 0) fun x25 =>
              ldI .i64 (a24.add 1) fun x26 =>
              ldStr (a24.add 2) fun x27 =>
              ldI .i64 (a24.add 3) fun x28 =>
              kr ((decide (x25 = 0) && (decide (x26 = 1) && (decide (x27 = []) && (decide (x28 = 0) && true)))))) (
              kr false)) (
            kr false)) (
          kr false)) (
        cond (decide (x0 = 10)) (
          kn x0 r3 r7 r8 1) (
          cond (decide (97 ≤ x0)) (
            cond (decide (x0 ≤ 122)) (
              kn x0 r3 r7 r8 2) (
              cond (decide (65 ≤ x0)) (
                cond (decide (x0 ≤ 90)) (
                  kn x0 r3 r7 r8 3) (
                  cond (decide (48 ≤ x0)) (
                    cond (decide (x0 ≤ 57)) (
                      kn x0 r3 r7 r8 4) (
                      cond (decide (33 ≤ x0)) (
                        cond (decide (x0 ≤ 126)) (
                          cond (!(decide (x0 = 95))) (
                            kn x0 r3 r7 r8 5) (
                            cond (r3) (
                              cond (decide (r9 = 0)) (
                                cond (decide (r10 = 3)) (
                                  kr (decide ((r7.len : Int) = 0))) (
                                  kr false)) (
                                kr false)) (
                              kr false))) (
                          cond (r3) (
                            cond (decide (r9 = 0)) (
                              cond (decide (r10 = 3)) (
                                kr (decide ((r7.len : Int) = 0))) (
                                kr false)) (
                              kr false)) (
                            kr false))) (
                        cond (r3) (
                          cond (decide (r9 = 0)) (
                            cond (decide (r10 = 3)) (
                              kr (decide ((r7.len : Int) = 0))) (
                              kr false)) (
                            kr false)) (
                          kr false)))) (
                    cond (decide (33 ≤ x0)) (
                      cond (decide (x0 ≤ 126)) (
                        cond (!(decide (x0 = 95))) (
                          kn x0 r3 r7 r8 5) (
                          cond (r3) (
                            cond (decide (r9 = 0)) (
                              cond (decide (r10 = 3)) (
                                kr (decide ((r7.len : Int) = 0))) (
                                kr false)) (
                              kr false)) (
                            kr false))) (
                        cond (r3) (
                          cond (decide (r9 = 0)) (
                            cond (decide (r10 = 3)) (
                              kr (decide ((r7.len : Int) = 0))) (
                              kr false)) (
                            kr false)) (
                          kr false))) (
                      cond (r3) (
                        cond (decide (r9 = 0)) (
                          cond (decide (r10 = 3)) (
                            kr (decide ((r7.len : Int) = 0))) (
                            kr false)) (
                          kr false)) (
                        kr false))))) (
                cond (decide (48 ≤ x0)) (
                  cond (decide (x0 ≤ 57)) (
                    kn x0 r3 r7 r8 4) (
                    cond (decide (33 ≤ x0)) (
                      cond (decide (x0 ≤ 126)) (
                        cond (!(decide (x0 = 95))) (
                          kn x0 r3 r7 r8 5) (
                          cond (r3) (
                            cond (decide (r9 = 0)) (
                              cond (decide (r10 = 3)) (
                                kr (decide ((r7.len : Int) = 0))) (
                                kr false)) (
                              kr false)) (
                            kr false))) (
                        cond (r3) (
                          cond (decide (r9 = 0)) (
                            cond (decide (r10 = 3)) (
                              kr (decide ((r7.len : Int) = 0))) (
                              kr false)) (
                            kr false)) (
                          kr false))) (
                      cond (r3) (
                        cond (decide (r9 = 0)) (
                          cond (decide (r10 = 3)) (
                            kr (decide ((r7.len : Int) = 0))) (
                            kr false)) (
                          kr false)) (
                        kr false)))) (
                  cond (decide (33 ≤ x0)) (
                    cond (decide (x0 ≤ 126)) (
                      cond (!(decide (x0 = 95))) (
                        kn x0 r3 r7 r8 5) (
                        cond (r3) (
                          cond (decide (r9 = 0)) (
                            cond (decide (r10 = 3)) (
                              kr (decide ((r7.len : Int) = 0))) (
                              kr false)) (
                            kr false)) (
                          kr false))) (
                      cond (r3) (
                        cond (decide (r9 = 0)) (
                          cond (decide (r10 = 3)) (
                            kr (decide ((r7.len : Int) = 0))) (
                            kr false)) (
                          kr false)) (
                        kr false))) (
                    cond (r3) (
                      cond (decide (r9 = 0)) (
                        cond (decide (r10 = 3)) (
                          kr (decide ((r7.len : Int) = 0))) (
                          kr false)) (
                        kr false)) (
                      kr false)))))) (
            cond (decide (65 ≤ x0)) (
              cond (decide (x0 ≤ 90)) (
                kn x0 r3 r7 r8 3) (
                cond (decide (48 ≤ x0)) (
                  cond (decide (x0 ≤ 57)) (
                    kn x0 r3 r7 r8 4) (
                    cond (decide (33 ≤ x0)) (
                      cond (decide (x0 ≤ 126)) (
                        cond (!(decide (x0 = 95))) (
                          kn x0 r3 r7 r8 5) (
                          cond (r3) (
                            cond (decide (r9 = 0)) (
                              cond (decide (r10 = 3)) (
                                kr (decide ((r7.len : Int) = 0))) (
                                kr false)) (
                              kr false)) (
                            kr false))) (
                        cond (r3) (
                          cond (decide (r9 = 0)) (
                            cond (decide (r10 = 3)) (
                              kr (decide ((r7.len : Int) = 0))) (
                              kr false)) (
                            kr false)) (
                          kr false))) (
                      cond (r3) (
                        cond (decide (r9 = 0)) (
                          cond (decide (r10 = 3)) (
                            kr (decide ((r7.len : Int) = 0))) (
                            kr false)) (
                          kr false)) (
                        kr false)))) (
                  cond (decide (33 ≤ x0)) (
                    cond (decide (x0 ≤ 126)) (
                      cond (!(decide (x0 = 95))) (
                        kn x0 r3 r7 r8 5) (
                        cond (r3) (
                          cond (decide (r9 = 0)) (
                            cond (decide (r10 = 3)) (
                              kr (decide ((r7.len : Int) = 0))) (
                              kr false)) (
                            kr false)) (
                          kr false))) (
                      cond (r3) (
                        cond (decide (r9 = 0)) (
                          cond (decide (r10 = 3)) (
                            kr (decide ((r7.len : Int) = 0))) (
                            kr false)) (
                          kr false)) (
                        kr false))) (
                    cond (r3) (
                      cond (decide (r9 = 0)) (
                        cond (decide (r10 = 3)) (
                          kr (decide ((r7.len : Int) = 0))) (
                          kr false)) (
                        kr false)) (
                      kr false))))) (
              cond (decide (48 ≤ x0)) (
                cond (decide (x0 ≤ 57)) (
                  kn x0 r3 r7 r8 4) (
                  cond (decide (33 ≤ x0)) (
                    cond (decide (x0 ≤ 126)) (
                      cond (!(decide (x0 = 95))) (
                        kn x0 r3 r7 r8 5) (
                        cond (r3) (
                          cond (decide (r9 = 0)) (
                            cond (decide (r10 = 3)) (
                              kr (decide ((r7.len : Int) = 0))) (
                              kr false)) (
                            kr false)) (
                          kr false))) (
                      cond (r3) (
                        cond (decide (r9 = 0)) (
                          cond (decide (r10 = 3)) (
                            kr (decide ((r7.len : Int) = 0))) (
                            kr false)) (
                          kr false)) (
                        kr false))) (
                    cond (r3) (
                      cond (decide (r9 = 0)) (
                        cond (decide (r10 = 3)) (
                          kr (decide ((r7.len : Int) = 0))) (
                          kr false)) (
                        kr false)) (
                      kr false)))) (
                cond (decide (33 ≤ x0)) (
                  cond (decide (x0 ≤ 126)) (
                    cond (!(decide (x0 = 95))) (
                      kn x0 r3 r7 r8 5) (
                      cond (r3) (
                        cond (decide (r9 = 0)) (
                          cond (decide (r10 = 3)) (
                            kr (decide ((r7.len : Int) = 0))) (
                            kr false)) (
                          kr false)) (
                        kr false))) (
                    cond (r3) (
                      cond (decide (r9 = 0)) (
                        cond (decide (r10 = 3)) (
                          kr (decide ((r7.len : Int) = 0))) (
                          kr false)) (
                        kr false)) (
                      kr false))) (
                  cond (r3) (
                    cond (decide (r9 = 0)) (
                      cond (decide (r10 = 3)) (
                        kr (decide ((r7.len : Int) = 0))) (
                        kr false)) (
                      kr false)) (
                    kr false)))))))))
noncomputable def bailifflaw02_ScanSigns.u1.c (R : IC) : IC := (.seq (.ops 0 (opsOf Tryd.f7 0)) (.seq (.ops 1 (opsOf Tryd.f7 1)) (.seq (.ops 2 (opsOf Tryd.f7 2)) (.seq (.ops 3 (opsOf Tryd.f7 3)) (.seq (.ops 4 (opsOf Tryd.f7 4)) (.seq (.cut [0, 3, 4, 5, 8] (.block 0 (.seq (.ops 6 (opsOf Tryd.f7 6)) (.cond (.tmp 36) (.seq (.ops 7 (opsOf Tryd.f7 7)) (.ret [2])) (.seq (.ops 8 (opsOf Tryd.f7 8)) (.cond (.tmp 64) (.ops 9 (opsOf Tryd.f7 9)) (.seq (.ops 10 (opsOf Tryd.f7 10)) (.cond (.tmp 67) (.ops 11 (opsOf Tryd.f7 11)) (.seq (.ops 12 (opsOf Tryd.f7 12)) (.cond (.tmp 74) (.ops 13 (opsOf Tryd.f7 13)) (.seq (.ops 14 (opsOf Tryd.f7 14)) (.cond (.tmp 81) (.ops 15 (opsOf Tryd.f7 15)) (.seq (.ops 16 (opsOf Tryd.f7 16)) (.cond (.tmp 88) (.ops 17 (opsOf Tryd.f7 17)) (.seq (.ops 5 (opsOf Tryd.f7 5)) (.ret [2])))))))))))))))) R))))))
noncomputable def bailifflaw02_ScanSigns.u2.f {α : Type} (k : Nat) (x0 : Int) (x1 : Bool) (x2 : Sl) (x3 : V) (x4 : Int) (kr : Bool → M α) : M α :=
  cond (x1) (
    asNil x3 fun b7 =>
    cond (b7) (
      cond (decide ((x2.len : Int) = 2)) (
        idxSl x2 0 4 fun a8 =>
        ldI .i64 ((a8.add 0).add 0) fun x9 =>
        cond (decide (x9 = x4)) (
          idxSl x2 0 4 fun a10 =>
          ldStr ((a10.add 2).add 0) fun x11 =>
          new [.int .u8 x0] fun r12 =>
          ldStr ((a10.add 2).add 0) fun y13 =>
          need (decide (x11 = y13)) <|
          rdSl (⟨some r12, 1, 1, none⟩ : Sl) 1 fun cs14 =>
          toStr cs14 fun x15 =>
          ldStr ((a10.add 2).add 0) fun y16 =>
          need (decide (x11 = y16)) <|
          kr (decide (x11 = x15))) (
          kr false)) (
        kr false)) (
      kr false)) (
    kr false)
noncomputable def bailifflaw02_ScanSigns.u2.c : IC := (.seq (.drawn 18 (opsOf Tryd.f7 18) true [.op 0, .op 1, .op 2, .op 3, .op 4, .op 5, .op 6, .op 7, .op 8, .op 9, .op 10, .op 11, .op 12, .op 13, .op 14, .op 15, .op 16, .op 17, .op 18, .op 19, .op 20, .op 21, .op 22, .op 23, .op 24, .look 22, .op 25, .look 22, .op 26, .op 27, .op 28]) (.ret [2]))
noncomputable abbrev bailifflaw02_ScanSigns.u3.f {α : Type} (k : Nat) (x0 : Int) (kr : Bool → M α) : M α :=
  bailifflaw02_ScanSigns.u1.f k x0 (fun y0 y1 y2 y3 y4 => bailifflaw02_ScanSigns.u2.f k y0 y1 y2 y3 y4 kr) kr
noncomputable def bailifflaw02_ScanSigns.u3.c : IC := bailifflaw02_ScanSigns.u1.c bailifflaw02_ScanSigns.u2.c
noncomputable def bailifflaw02_ScanSigns.f {α : Type} : Nat → Int → (Bool → M α) → M α
  | 0, _, _ => fail
  | k + 1, x0, ret =>
    bailifflaw02_ScanSigns.u3.f k x0 (fun y0 =>
      ret y0)

noncomputable def bailifflaw02_ScanUpTo.u1.f {α : Type} (k : Nat) (x0 : List UInt8) (kr : Bool → M α) : M α :=
  bailifflaw02_shown.f k fun r3 =>
  scan_All.f k x0 fun r4 r5 =>
  bailifflaw02_fault.f k r5 fun r6 r7 =>
  cond (!r3) (
    kr r3) (
    asNil r5 fun b8 =>
    cond (b8) (
      kr r3) (
      cond (decide (r7 = 2)) (
        cond (decide (r6 = 262144)) (
          kr (decide (262144 < (x0.length : Int)))) (
          kr false)) (
        cond (decide (r7 = 0)) (
          kr false) (
          cond (decide (r6 < 0)) (
            kr false) (
            cond (decide ((x0.length : Int) ≤ r6)) (
              kr false) (
              cutStr x0 none (some r6) fun x9 =>
              scan_All.f k x9 fun r10 r11 =>
              asNil r11 fun b12 =>
              cond (b12) (
                cond (decide (0 < (r10.len : Int))) (
                  idxSl r10 (w64 ((r10.len : Int) - 1)) 4 fun a13 =>
                  ldI .i64 (a13.add 0) fun x14 =>
                  ldI .i64 (a13.add 1) fun x15 =>
                  ldStr (a13.add 2) fun x16 =>
                  ldI .i64 (a13.add 3) fun x17 =>
                  kr ((decide (x14 = 0) && (decide (x15 = r6) && (decide (x16 = []) && (decide (x17 = 0) && true)))))) (
                  kr false)) (
                kr false)))))))
noncomputable def bailifflaw02_ScanUpTo.u1.c : IC := (.seq (.ops 0 (opsOf Tryd.f8 0)) (.seq (.ops 1 (opsOf Tryd.f8 1)) (.seq (.ops 2 (opsOf Tryd.f8 2)) (.seq (.ops 3 (opsOf Tryd.f8 3)) (.seq (.seq (.ops 4 (opsOf Tryd.f8 4)) (.cond (.tmp 26) (.seq (.ops 5 (opsOf Tryd.f8 5)) (.ret [2])) .skip)) (.seq (.seq (.ops 6 (opsOf Tryd.f8 6)) (.cond (.tmp 29) (.seq (.ops 7 (opsOf Tryd.f8 7)) (.ret [2])) .skip)) (.seq (.seq (.ops 8 (opsOf Tryd.f8 8)) (.cond (.tmp 48) (.seq (.ops 9 (opsOf Tryd.f8 9)) (.ret [2])) .skip)) (.seq (.ops 10 (opsOf Tryd.f8 10)) (.seq (.ops 11 (opsOf Tryd.f8 11)) (.ret [2]))))))))))
noncomputable def bailifflaw02_ScanUpTo.f {α : Type} : Nat → List UInt8 → (Bool → M α) → M α
  | 0, _, _ => fail
  | k + 1, x0, ret =>
    bailifflaw02_ScanUpTo.u1.f k x0 (fun y0 =>
      ret y0)

noncomputable def bailifflaw02_ScanCuts.u1.f {α : Type} (k : Nat) (x0 : List UInt8) (x1 : Int) (kn : List UInt8 → Int → Sl → M α) (kr : Bool → M α) : M α :=
  bailifflaw02_shown.f k fun r4 =>
  scan_All.f k x0 fun r5 r6 =>
  cond (!r4) (
    kr r4) (
    asNil r6 fun b7 =>
    cond (!b7) (
      kr r4) (
      cond (decide (x1 < 0)) (
        kn x0 (w64 (0 - w64 (x1 + 1))) r5) (
        kn x0 x1 r5)))
noncomputable def bailifflaw02_ScanCuts.u1.c (R : IC) : IC := (.seq (.ops 0 (opsOf Tryd.f9 0)) (.seq (.ops 1 (opsOf Tryd.f9 1)) (.seq (.ops 2 (opsOf Tryd.f9 2)) (.seq (.seq (.ops 3 (opsOf Tryd.f9 3)) (.cond (.tmp 24) (.seq (.ops 4 (opsOf Tryd.f9 4)) (.ret [4])) .skip)) (.seq (.cut [0, 1, 6] (.seq (.ops 5 (opsOf Tryd.f9 5)) (.cond (.tmp 27) (.ops 6 (opsOf Tryd.f9 6)) .skip))) R)))))
noncomputable def bailifflaw02_ScanCuts.u2.f {α : Type} (k : Nat) (x0 : List UInt8) (x1 : Int) (x2 : Sl) (kn : Sl → Int → Sl → M α) (kr : Bool → M α) : M α :=
  cond (decide ((x2.len : Int) = 0)) (
    kr false) (
    need (!decide ((x2.len : Int) = 0)) <|
    idxSl x2 (Int.tmod x1 (x2.len : Int)) 4 fun a5 =>
    ldI .i64 ((a5.add 1).add 0) fun x6 =>
    cond (decide (x6 < 0)) (
      kr false) (
      cond (decide ((x0.length : Int) < x6)) (
        kr false) (
        cutStr x0 none (some x6) fun x7 =>
        scan_All.f k x7 fun r8 r9 =>
        asNil r9 fun b10 =>
        cond (!b10) (
          kr false) (
          cond (!(decide ((r8.len : Int) = w64 ((Int.tmod x1 (x2.len : Int)) + 1)))) (
            kr false) (
            idxSl r8 (Int.tmod x1 (x2.len : Int)) 4 fun a11 =>
            ldI .i64 (a11.add 0) fun x12 =>
            ldI .i64 (a11.add 1) fun x13 =>
            ldStr (a11.add 2) fun x14 =>
            ldI .i64 (a11.add 3) fun x15 =>
            cond (!((decide (x12 = 0) && (decide (x13 = x6) && (decide (x14 = []) && (decide (x15 = 0) && true)))))) (
              kr false) (
              kn x2 (Int.tmod x1 (x2.len : Int)) r8))))))
noncomputable def bailifflaw02_ScanCuts.u2.c (R : IC) : IC := (.seq (.seq (.ops 7 (opsOf Tryd.f9 7)) (.cond (.tmp 33) (.seq (.ops 8 (opsOf Tryd.f9 8)) (.ret [4])) .skip)) (.seq (.ops 9 (opsOf Tryd.f9 9)) (.seq (.ops 10 (opsOf Tryd.f9 10)) (.seq (.seq (.ops 11 (opsOf Tryd.f9 11)) (.cond (.tmp 50) (.seq (.ops 12 (opsOf Tryd.f9 12)) (.ret [4])) .skip)) (.seq (.ops 13 (opsOf Tryd.f9 13)) (.seq (.cut [6, 8, 10] (.seq (.ops 14 (opsOf Tryd.f9 14)) (.cond (.tmp 75) (.seq (.ops 15 (opsOf Tryd.f9 15)) (.ret [4])) .skip))) R))))))
noncomputable def bailifflaw02_ScanCuts.u3.f {α : Type} (k : Nat) (x0 : Sl) (x1 : Int) (x2 : Sl) (kn : Sl → Int → Sl → Int → M α) : M α :=
  kn x0 x1 x2 0
noncomputable def bailifflaw02_ScanCuts.u3.c (R : IC) : IC := (.seq (.cut [6, 8, 10, 12] (.ops 16 (opsOf Tryd.f9 16))) R)
noncomputable def bailifflaw02_ScanCuts.u4.f {α : Type} (k : Nat) (x0 : Sl) (x1 : Int) (x2 : Sl) (x3 : Int) (kn : Sl → Int → Sl → Int → M α) (kr : Bool → M α) (kx0 : M α) : M α :=
  cond (decide (x3 < x1)) (
    idxSl x2 x3 4 fun a6 =>
    ldI .i64 (a6.add 0) fun x7 =>
    ldI .i64 (a6.add 1) fun x8 =>
    ldStr (a6.add 2) fun x9 =>
    ldI .i64 (a6.add 3) fun x10 =>
    idxSl x0 x3 4 fun a11 =>
    ldI .i64 (a11.add 0) fun x12 =>
    ldI .i64 (a11.add 1) fun x13 =>
    ldStr (a11.add 2) fun x14 =>
    ldI .i64 (a11.add 3) fun x15 =>
    cond (!((decide (x7 = x12) && (decide (x8 = x13) && (decide (x9 = x14) && (decide (x10 = x15) && true)))))) (
      kr false) (
      kn x0 x1 x2 (w64 (x3 + 1)))) (
    kx0)
noncomputable def bailifflaw02_ScanCuts.u4.c : IC := (.seq (.seq (.ops 17 (opsOf Tryd.f9 17)) (.cond (.tmp 78) .skip (.exit 0 []))) (.seq (.block 1 (.seq (.drawn 19 (opsOf Tryd.f9 19) true [.op 0, .op 1, .op 2, .op 3, .op 4, .op 5, .op 6, .op 7, .op 8]) (.cond (.tmp 89) (.seq (.ops 20 (opsOf Tryd.f9 20)) (.ret [4])) .skip))) (.cut [6, 8, 10, 12] (.ops 18 (opsOf Tryd.f9 18)))))
noncomputable def bailifflaw02_ScanCuts.u5.l {α : Type} (k : Nat) (kr : Bool → M α) (kx0 : M α) : Nat → Sl → Int → Sl → Int → M α
  | 0, _, _, _, _ => fail
  | j + 1, x0, x1, x2, x3 =>
    bailifflaw02_ScanCuts.u4.f k x0 x1 x2 x3 (fun y0 y1 y2 y3 => bailifflaw02_ScanCuts.u5.l k kr kx0 j y0 y1 y2 y3) kr kx0
noncomputable abbrev bailifflaw02_ScanCuts.u5.f {α : Type} (k : Nat) (x0 : Sl) (x1 : Int) (x2 : Sl) (x3 : Int) (kr : Bool → M α) (kx0 : M α) : M α :=
  bailifflaw02_ScanCuts.u5.l k kr kx0 k x0 x1 x2 x3
noncomputable def bailifflaw02_ScanCuts.u5.c : IC := .loop [6, 8, 10, 12] bailifflaw02_ScanCuts.u4.c
noncomputable abbrev bailifflaw02_ScanCuts.u6.f {α : Type} (k : Nat) (x0 : Sl) (x1 : Int) (x2 : Sl) (x3 : Int) (kn : M α) (kr : Bool → M α) : M α :=
  bailifflaw02_ScanCuts.u5.f k x0 x1 x2 x3 kr (kn)
noncomputable def bailifflaw02_ScanCuts.u6.c : IC := .block 0 bailifflaw02_ScanCuts.u5.c
noncomputable abbrev bailifflaw02_ScanCuts.u7.f {α : Type} (k : Nat) (x0 : Sl) (x1 : Int) (x2 : Sl) (kn : M α) (kr : Bool → M α) : M α :=
  bailifflaw02_ScanCuts.u3.f k x0 x1 x2 (fun y0 y1 y2 y3 => bailifflaw02_ScanCuts.u6.f k y0 y1 y2 y3 kn kr)
noncomputable def bailifflaw02_ScanCuts.u7.c : IC := bailifflaw02_ScanCuts.u3.c bailifflaw02_ScanCuts.u6.c
noncomputable def bailifflaw02_ScanCuts.u8.f {α : Type} (k : Nat) (kr : Bool → M α) : M α :=
  kr true
noncomputable def bailifflaw02_ScanCuts.u8.c : IC := (.seq (.ops 21 (opsOf Tryd.f9 21)) (.ret [4]))
noncomputable abbrev bailifflaw02_ScanCuts.u9.f {α : Type} (k : Nat) (x0 : Sl) (x1 : Int) (x2 : Sl) (kr : Bool → M α) : M α :=
  bailifflaw02_ScanCuts.u7.f k x0 x1 x2 (bailifflaw02_ScanCuts.u8.f k kr) kr
noncomputable def bailifflaw02_ScanCuts.u9.c : IC := (.seq bailifflaw02_ScanCuts.u7.c bailifflaw02_ScanCuts.u8.c)
noncomputable abbrev bailifflaw02_ScanCuts.u10.f {α : Type} (k : Nat) (x0 : List UInt8) (x1 : Int) (x2 : Sl) (kr : Bool → M α) : M α :=
  bailifflaw02_ScanCuts.u2.f k x0 x1 x2 (fun y0 y1 y2 => bailifflaw02_ScanCuts.u9.f k y0 y1 y2 kr) kr
noncomputable def bailifflaw02_ScanCuts.u10.c : IC := bailifflaw02_ScanCuts.u2.c bailifflaw02_ScanCuts.u9.c
noncomputable abbrev bailifflaw02_ScanCuts.u11.f {α : Type} (k : Nat) (x0 : List UInt8) (x1 : Int) (kr : Bool → M α) : M α :=
  bailifflaw02_ScanCuts.u1.f k x0 x1 (fun y0 y1 y2 => bailifflaw02_ScanCuts.u10.f k y0 y1 y2 kr) kr
noncomputable def bailifflaw02_ScanCuts.u11.c : IC := bailifflaw02_ScanCuts.u1.c bailifflaw02_ScanCuts.u10.c
noncomputable def bailifflaw02_ScanCuts.f {α : Type} : Nat → List UInt8 → Int → (Bool → M α) → M α
  | 0, _, _, _ => fail
  | k + 1, x0, x1, ret =>
    bailifflaw02_ScanCuts.u11.f k x0 x1 (fun y0 =>
      ret y0)

noncomputable def ti : Nat → Option TI
  | 3 => some ⟨Tryd.t3.desc, 1, 8, [.int .i64 0], [.int .i64], false, false⟩
  | 4 => some ⟨Tryd.t4.desc, 1, 1, [.bool false], [.bool], false, false⟩
  | 5 => some ⟨Tryd.t5.desc, 1, 1, [.int .u8 0], [.int .u8], false, false⟩
  | 9 => some ⟨Tryd.t9.desc, 1, 16, [.str []], [.str], false, false⟩
  | 23 => some ⟨Tryd.t23.desc, 1, 24, [.slice Sl.nil], [.slice], false, false⟩
  | 25 => some ⟨Tryd.t24.desc, 1, 16, [.nilIface], [.any], false, false⟩
  | 28 => some ⟨Tryd.t3.desc, 1, 8, [.int .i64 0], [.int .i64], false, false⟩
  | 35 => some ⟨Tryd.t34.desc, 4, 40, [.int .i64 0, .int .i64 0, .str [], .int .i64 0], [.int .i64, .int .i64, .str, .int .i64], true, true⟩
  | 38 => some ⟨Tryd.t38.desc, 1, 24, [.slice Sl.nil], [.slice], false, false⟩
  | 42 => some ⟨Tryd.t42.desc, 1, 8, [.ptr none], [.ptr], false, false⟩
  | 44 => some ⟨Tryd.t43.desc, 2, 16, [.int .i64 0, .int .i64 0], [.int .i64, .int .i64], true, true⟩
  | 49 => some ⟨Tryd.t49.desc, 1, 8, [.ptr none], [.ptr], false, false⟩
  | _ => none
noncomputable def T : Tab := ⟨ti, fun _ => none⟩

noncomputable def env_32 {α : Type} (k : Nat) (args : List V) (κ : Res → M α) : M α := match args with
  | [a0, a1] =>
      asStr a0 fun x1 =>
      asI .u8 a1 fun x2 =>
      bytealg_IndexByteString.f k x1 x2 (fun o0 => κ (.ret (.int .i64 o0)))
  | _ => fail
noncomputable def env_18 {α : Type} (k : Nat) (args : List V) (κ : Res → M α) : M α := match args with
  | [a0, a1] =>
      errors_As.f k a0 a1 (fun o0 => κ (.ret (.bool o0)))
  | _ => fail
noncomputable def env_19 {α : Type} (k : Nat) (args : List V) (κ : Res → M α) : M α := match args with
  | [a0, a1] =>
      asStr a0 fun x1 =>
      asI .u8 a1 fun x2 =>
      stringslite_IndexByte.f k x1 x2 (fun o0 => κ (.ret (.int .i64 o0)))
  | _ => fail
noncomputable def env_15 {α : Type} (k : Nat) (args : List V) (κ : Res → M α) : M α := match args with
  | [a0, a1] =>
      asStr a0 fun x1 =>
      asI .u8 a1 fun x2 =>
      strings_IndexByte.f k x1 x2 (fun o0 => κ (.ret (.int .i64 o0)))
  | _ => fail
noncomputable def env_20 {α : Type} (k : Nat) (args : List V) (κ : Res → M α) : M α := match args with
  | [a0] =>
      asI .u8 a0 fun x1 =>
      scan_kind.f k x1 (fun o0 => κ (.ret (.int .i64 o0)))
  | _ => fail
noncomputable def env_21 {α : Type} (k : Nat) (args : List V) (κ : Res → M α) : M α := match args with
  | [a0, a1] =>
      asI .i64 a0 fun x1 =>
      asStr a1 fun x2 =>
      scan_long.f k x1 x2 (fun o0 => κ (.ret (.int .i64 o0)))
  | _ => fail
noncomputable def env_22 {α : Type} (k : Nat) (args : List V) (κ : Res → M α) : M α := match args with
  | [a0] =>
      asStr a0 fun x1 =>
      scan_value.f k x1 (fun o0 o1 => κ (.ret (.tuple [.int .i64 o0, .bool o1])))
  | _ => fail
noncomputable def env_16 {α : Type} (k : Nat) (args : List V) (κ : Res → M α) : M α := match args with
  | [a0, a1] =>
      asStr a0 fun x1 =>
      asI .i64 a1 fun x2 =>
      scan_token.f k x1 x2 (fun o0 o1 o2 o3 o4 => κ (.ret (.tuple [.agg [.int .i64 o0, .int .i64 o1, .str o2, .int .i64 o3], .int .i64 o4])))
  | _ => fail
noncomputable def env_11 {α : Type} (k : Nat) (args : List V) (κ : Res → M α) : M α := match args with
  | [a0] =>
      asStr a0 fun x1 =>
      scan_All.f k x1 (fun o0 o1 => κ (.ret (.tuple [.slice o0, o1])))
  | _ => fail
noncomputable def env_13 {α : Type} (k : Nat) (args : List V) (κ : Res → M α) : M α := match args with
  | [a0] =>
      bailifflaw02_fault.f k a0 (fun o0 o1 => κ (.ret (.tuple [.int .i64 o0, .int .i64 o1])))
  | _ => fail
noncomputable def env_10 {α : Type} (k : Nat) (args : List V) (κ : Res → M α) : M α := match args with
  | [] =>
      bailifflaw02_shown.f k (fun o0 => κ (.ret (.bool o0)))
  | _ => fail
noncomputable def env_23 {α : Type} (k : Nat) (args : List V) (κ : Res → M α) : M α := match args with
  | [a0] =>
      asI .u8 a0 fun x1 =>
      bailiffref02_small.f k x1 (fun o0 => κ (.ret (.bool o0)))
  | _ => fail
noncomputable def env_24 {α : Type} (k : Nat) (args : List V) (κ : Res → M α) : M α := match args with
  | [a0] =>
      asI .u8 a0 fun x1 =>
      bailiffref02_capital.f k x1 (fun o0 => κ (.ret (.bool o0)))
  | _ => fail
noncomputable def env_25 {α : Type} (k : Nat) (args : List V) (κ : Res → M α) : M α := match args with
  | [a0] =>
      asI .u8 a0 fun x1 =>
      bailiffref02_digit.f k x1 (fun o0 => κ (.ret (.bool o0)))
  | _ => fail
noncomputable def env_33 {α : Type} (k : Nat) (args : List V) (κ : Res → M α) : M α := match args with
  | [a0] =>
      asI .u8 a0 fun x1 =>
      bailiffref02_inner.f k x1 (fun o0 => κ (.ret (.bool o0)))
  | _ => fail
noncomputable def env_26 {α : Type} (k : Nat) (args : List V) (κ : Res → M α) : M α := match args with
  | [a0, a1] =>
      asStr a0 fun x1 =>
      asI .i64 a1 fun x2 =>
      bailiffref02_name.f k x1 x2 (fun o0 => κ (.ret (.int .i64 o0)))
  | _ => fail
noncomputable def env_27 {α : Type} (k : Nat) (args : List V) (κ : Res → M α) : M α := match args with
  | [a0, a1] =>
      asStr a0 fun x1 =>
      asI .i64 a1 fun x2 =>
      bailiffref02_number.f k x1 x2 (fun o0 o1 => κ (.ret (.tuple [.int .i64 o0, .int .i64 o1])))
  | _ => fail
noncomputable def env_17 {α : Type} (k : Nat) (args : List V) (κ : Res → M α) : M α := match args with
  | [a0, a1] =>
      asStr a0 fun x1 =>
      asI .i64 a1 fun x2 =>
      bailiffref02_one.f k x1 x2 (fun o0 o1 o2 o3 o4 => κ (.ret (.tuple [.agg [.int .i64 o0, .int .i64 o1, .str o2, .int .i64 o3], .int .i64 o4])))
  | _ => fail
noncomputable def env_12 {α : Type} (k : Nat) (args : List V) (κ : Res → M α) : M α := match args with
  | [a0] =>
      asStr a0 fun x1 =>
      bailiffref02_All.f k x1 (fun o0 o1 o2 => κ (.ret (.tuple [.slice o0, .int .i64 o1, .int .i64 o2])))
  | _ => fail
noncomputable def env_14 {α : Type} (k : Nat) (args : List V) (κ : Res → M α) : M α := match args with
  | [a0, a1, a2] =>
      asS a0 fun x1 =>
      asS a1 fun x2 =>
      asI .i64 a2 fun x3 =>
      bailifflaw02_same.f k x1 x2 x3 (fun o0 => κ (.ret (.bool o0)))
  | _ => fail
noncomputable def env_3 {α : Type} (k : Nat) (args : List V) (κ : Res → M α) : M α := match args with
  | [a0] =>
      asStr a0 fun x1 =>
      bailifflaw02_ScanAll.f k x1 (fun o0 => κ (.ret (.bool o0)))
  | _ => fail
noncomputable def env_4 {α : Type} (k : Nat) (args : List V) (κ : Res → M α) : M α := match args with
  | [a0] =>
      asStr a0 fun x1 =>
      bailifflaw02_ScanPieces.f k x1 (fun o0 => κ (.ret (.bool o0)))
  | _ => fail
noncomputable def env_5 {α : Type} (k : Nat) (args : List V) (κ : Res → M α) : M α := match args with
  | [a0, a1] =>
      asStr a0 fun x1 =>
      asStr a1 fun x2 =>
      bailifflaw02_ScanJoins.f k x1 x2 (fun o0 => κ (.ret (.bool o0)))
  | _ => fail
noncomputable def env_6 {α : Type} (k : Nat) (args : List V) (κ : Res → M α) : M α := match args with
  | [a0, a1, a2] =>
      asI .u8 a0 fun x1 =>
      asStr a1 fun x2 =>
      asI .i64 a2 fun x3 =>
      bailifflaw02_ScanNames.f k x1 x2 x3 (fun o0 => κ (.ret (.bool o0)))
  | _ => fail
noncomputable def env_7 {α : Type} (k : Nat) (args : List V) (κ : Res → M α) : M α := match args with
  | [a0] =>
      asI .u8 a0 fun x1 =>
      bailifflaw02_ScanSigns.f k x1 (fun o0 => κ (.ret (.bool o0)))
  | _ => fail
noncomputable def env_8 {α : Type} (k : Nat) (args : List V) (κ : Res → M α) : M α := match args with
  | [a0] =>
      asStr a0 fun x1 =>
      bailifflaw02_ScanUpTo.f k x1 (fun o0 => κ (.ret (.bool o0)))
  | _ => fail
noncomputable def env_9 {α : Type} (k : Nat) (args : List V) (κ : Res → M α) : M α := match args with
  | [a0, a1] =>
      asStr a0 fun x1 =>
      asI .i64 a1 fun x2 =>
      bailifflaw02_ScanCuts.f k x1 x2 (fun o0 => κ (.ret (.bool o0)))
  | _ => fail
noncomputable def env {α : Type} (k : Nat) : Call α := fun f args κ => match f with
  | 32 => env_32 k args κ
  | 18 => env_18 k args κ
  | 19 => env_19 k args κ
  | 15 => env_15 k args κ
  | 20 => env_20 k args κ
  | 21 => env_21 k args κ
  | 22 => env_22 k args κ
  | 16 => env_16 k args κ
  | 11 => env_11 k args κ
  | 13 => env_13 k args κ
  | 10 => env_10 k args κ
  | 23 => env_23 k args κ
  | 24 => env_24 k args κ
  | 25 => env_25 k args κ
  | 33 => env_33 k args κ
  | 26 => env_26 k args κ
  | 27 => env_27 k args κ
  | 17 => env_17 k args κ
  | 12 => env_12 k args κ
  | 14 => env_14 k args κ
  | 3 => env_3 k args κ
  | 4 => env_4 k args κ
  | 5 => env_5 k args κ
  | 6 => env_6 k args κ
  | 7 => env_7 k args κ
  | 8 => env_8 k args κ
  | 9 => env_9 k args κ
  | _ => fail





noncomputable def stringslite_IndexByte.c : IC := stringslite_IndexByte.u1.c
noncomputable def stringslite_IndexByte.res : List ResultVar := [(.tmp 4)]
theorem stringslite_IndexByte.u1.ok {α : Type} (k : Nat) (x0 : List UInt8) (x1 : Int) (K : Ex → Frame → M α) :
    evC T (env k) k stringslite_IndexByte.u1.c (frameL [(0, .str x0), (1, .int .u8 x1)]) K =
      stringslite_IndexByte.u1.f k x0 x1 (fun y0 => K .ret (frameL [(4, .int .i64 y0)])) := by kernel_rfl
theorem stringslite_IndexByte.ok {α : Type} (k : Nat) (x0 : List UInt8) (x1 : Int) (κ : Res → M α) :
    evF T (env k) k stringslite_IndexByte.c stringslite_IndexByte.res [.str x0, .int .u8 x1] κ = stringslite_IndexByte.f (k + 1) x0 x1 (fun o0 => κ (.ret (.int .i64 o0))) :=
  (stringslite_IndexByte.u1.ok k x0 x1 (retK T stringslite_IndexByte.res κ)).trans (by kernel_rfl)
theorem stringslite_IndexByte.code : stringslite_IndexByte.c.code = bodyOf Tryd.f19 := by kernel_rfl

noncomputable def strings_IndexByte.c : IC := strings_IndexByte.u1.c
noncomputable def strings_IndexByte.res : List ResultVar := [(.tmp 4)]
theorem strings_IndexByte.u1.ok {α : Type} (k : Nat) (x0 : List UInt8) (x1 : Int) (K : Ex → Frame → M α) :
    evC T (env k) k strings_IndexByte.u1.c (frameL [(0, .str x0), (1, .int .u8 x1)]) K =
      strings_IndexByte.u1.f k x0 x1 (fun y0 => K .ret (frameL [(4, .int .i64 y0)])) := by kernel_rfl
theorem strings_IndexByte.ok {α : Type} (k : Nat) (x0 : List UInt8) (x1 : Int) (κ : Res → M α) :
    evF T (env k) k strings_IndexByte.c strings_IndexByte.res [.str x0, .int .u8 x1] κ = strings_IndexByte.f (k + 1) x0 x1 (fun o0 => κ (.ret (.int .i64 o0))) :=
  (strings_IndexByte.u1.ok k x0 x1 (retK T strings_IndexByte.res κ)).trans (by kernel_rfl)
theorem strings_IndexByte.code : strings_IndexByte.c.code = bodyOf Tryd.f15 := by kernel_rfl

noncomputable def scan_kind.c : IC := scan_kind.u1.c
noncomputable def scan_kind.res : List ResultVar := [(.tmp 2)]
theorem scan_kind.u1.ok {α : Type} (k : Nat) (x0 : Int) (K : Ex → Frame → M α) :
    evC T (env k) k scan_kind.u1.c (frameL [(0, .int .u8 x0)]) K =
      scan_kind.u1.f k x0 (fun y0 => K .ret (frameL [(2, .int .i64 y0)])) := by kernel_rfl
theorem scan_kind.ok {α : Type} (k : Nat) (x0 : Int) (κ : Res → M α) :
    evF T (env k) k scan_kind.c scan_kind.res [.int .u8 x0] κ = scan_kind.f (k + 1) x0 (fun o0 => κ (.ret (.int .i64 o0))) :=
  (scan_kind.u1.ok k x0 (retK T scan_kind.res κ)).trans (by kernel_rfl)
theorem scan_kind.code : scan_kind.c.code = bodyOf Tryd.f20 := by kernel_rfl

noncomputable def scan_long.c : IC := scan_long.u20.c
noncomputable def scan_long.res : List ResultVar := [(.tmp 4)]
theorem scan_long.u1.ok {α : Type} (k : Nat) (x0 : Int) (x1 : List UInt8) (R : IC) (K : Ex → Frame → M α) :
    evC T (env k) k (scan_long.u1.c R) (frameL [(0, .int .i64 x0), (1, .str x1)]) K =
      scan_long.u1.f k x0 x1 (fun y0 y1 y2 => evC T (env k) k R (frameL [(0, .int .i64 y0), (1, .str y1), (5, .int .i64 y2)]) K) := by kernel_rfl
theorem scan_long.u2.ok {α : Type} (k : Nat) (x0 : Int) (x1 : List UInt8) (x2 : Int) (R : IC) (K : Ex → Frame → M α) :
    evC T (env k) k (scan_long.u2.c R) (frameL [(0, .int .i64 x0), (1, .str x1), (5, .int .i64 x2)]) K =
      scan_long.u2.f k x0 x1 x2 (fun y0 y1 y2 => evC T (env k) k R (frameL [(1, .str y0), (5, .int .i64 y1), (6, .int .i64 y2)]) K) := by kernel_rfl
theorem scan_long.u3.ok {α : Type} (k : Nat) (x0 : List UInt8) (x1 : Int) (x2 : Int) (R : IC) (K : Ex → Frame → M α) :
    evC T (env k) k (scan_long.u3.c R) (frameL [(1, .str x0), (5, .int .i64 x1), (6, .int .i64 x2)]) K =
      scan_long.u3.f k x0 x1 x2 (fun y0 y1 y2 y3 => evC T (env k) k R (frameL [(1, .str y0), (5, .int .i64 y1), (6, .int .i64 y2), (7, .bool y3)]) K) := by kernel_rfl
theorem scan_long.u4.ok {α : Type} (k : Nat) (x0 : List UInt8) (x1 : Int) (K : Ex → Frame → M α) :
    evC T (env k) k scan_long.u4.c (frameL [(1, .str x0), (5, .int .i64 x1)]) K =
      scan_long.u4.f k x0 x1 (fun y0 y1 => K .normal (frameL [(1, .str y0), (5, .int .i64 y1)])) (fun y0 => K (.exit 1) (frameL [(5, .int .i64 y0)])) := by kernel_rfl
theorem scan_long.u5.ls {α : Type} (k : Nat) (kx1 : Int → M α) (j : Nat) (x0 : List UInt8) (x1 : Int) : scan_long.u5.l k kx1 (j + 1) x0 x1 =
  scan_long.u4.f k x0 x1 (fun y0 y1 => scan_long.u5.l k kx1 j y0 y1) kx1 := rfl
theorem scan_long.u5.okl {α : Type} (k : Nat) (K : Ex → Frame → M α) : ∀ (j : Nat) (x0 : List UInt8) (x1 : Int),
    evLoop (evC T (env k) k scan_long.u4.c) [1, 5] j (frameL [(1, .str x0), (5, .int .i64 x1)]) K = scan_long.u5.l k (fun y0 => K (.exit 1) (frameL [(5, .int .i64 y0)])) j x0 x1
  | 0, _, _ => rfl
  | j + 1, x0, x1 => by
      have h := scan_long.u4.ok k x0 x1 (seqK (fun ρ => evLoop (evC T (env k) k scan_long.u4.c) [1, 5] j ρ K) K)
      simp only [seqK_exit, seqK_ret, seqK_pan, seqK_normal, scan_long.u5.okl k K j] at h
      exact (evLoop_step (by kernel_rfl) h).trans (scan_long.u5.ls k (fun y0 => K (.exit 1) (frameL [(5, .int .i64 y0)])) j x0 x1).symm
theorem scan_long.u5.ok {α : Type} (k : Nat) (x0 : List UInt8) (x1 : Int) (x2 : Int) (x3 : Bool) (K : Ex → Frame → M α) :
    evC T (env k) k scan_long.u5.c (frameL [(1, .str x0), (5, .int .i64 x1), (6, .int .i64 x2), (7, .bool x3)]) K =
      scan_long.u5.f k x0 x1 x2 x3 (fun y0 => K (.exit 1) (frameL [(5, .int .i64 y0)])) :=
  evC_loop.trans <| (evLoop_keep (body := evC T (env k) k scan_long.u4.c) (keep := [1, 5]) (ρ := (frameL [(1, .str x0), (5, .int .i64 x1), (6, .int .i64 x2), (7, .bool x3)])) (ρ' := (frameL [(1, .str x0), (5, .int .i64 x1)])) (by kernel_rfl) k K).trans (scan_long.u5.okl k K k x0 x1)
theorem scan_long.u6.ok {α : Type} (k : Nat) (x0 : List UInt8) (x1 : Int) (x2 : Int) (x3 : Bool) (K : Ex → Frame → M α) :
    evC T (env k) k scan_long.u6.c (frameL [(1, .str x0), (5, .int .i64 x1), (6, .int .i64 x2), (7, .bool x3)]) K =
      scan_long.u6.f k x0 x1 x2 x3 (fun y0 => K .normal (frameL [(5, .int .i64 y0)])) :=
  (evC_block.trans (scan_long.u5.ok k x0 x1 x2 x3 (blockK 1 K))).trans (by kernel_rfl)
theorem scan_long.u7.ok {α : Type} (k : Nat) (x0 : List UInt8) (x1 : Int) (x2 : Int) (x3 : Bool) (R : IC) (K : Ex → Frame → M α) :
    evC T (env k) k (scan_long.u7.c R) (frameL [(1, .str x0), (5, .int .i64 x1), (6, .int .i64 x2), (7, .bool x3)]) K =
      scan_long.u7.f k x0 x1 x2 x3 (fun y0 y1 y2 => evC T (env k) k R (frameL [(1, .str y0), (5, .int .i64 y1), (27, .bool y2)]) K) := by kernel_rfl
theorem scan_long.u8.ok {α : Type} (k : Nat) (x0 : List UInt8) (x1 : Int) (K : Ex → Frame → M α) :
    evC T (env k) k scan_long.u8.c (frameL [(1, .str x0), (5, .int .i64 x1)]) K =
      scan_long.u8.f k x0 x1 (fun y0 y1 => K .normal (frameL [(1, .str y0), (5, .int .i64 y1)])) (fun y0 => K (.exit 3) (frameL [(5, .int .i64 y0)])) := by kernel_rfl
theorem scan_long.u9.ls {α : Type} (k : Nat) (kx3 : Int → M α) (j : Nat) (x0 : List UInt8) (x1 : Int) : scan_long.u9.l k kx3 (j + 1) x0 x1 =
  scan_long.u8.f k x0 x1 (fun y0 y1 => scan_long.u9.l k kx3 j y0 y1) kx3 := rfl
theorem scan_long.u9.okl {α : Type} (k : Nat) (K : Ex → Frame → M α) : ∀ (j : Nat) (x0 : List UInt8) (x1 : Int),
    evLoop (evC T (env k) k scan_long.u8.c) [1, 5] j (frameL [(1, .str x0), (5, .int .i64 x1)]) K = scan_long.u9.l k (fun y0 => K (.exit 3) (frameL [(5, .int .i64 y0)])) j x0 x1
  | 0, _, _ => rfl
  | j + 1, x0, x1 => by
      have h := scan_long.u8.ok k x0 x1 (seqK (fun ρ => evLoop (evC T (env k) k scan_long.u8.c) [1, 5] j ρ K) K)
      simp only [seqK_exit, seqK_ret, seqK_pan, seqK_normal, scan_long.u9.okl k K j] at h
      exact (evLoop_step (by kernel_rfl) h).trans (scan_long.u9.ls k (fun y0 => K (.exit 3) (frameL [(5, .int .i64 y0)])) j x0 x1).symm
theorem scan_long.u9.ok {α : Type} (k : Nat) (x0 : List UInt8) (x1 : Int) (x2 : Bool) (K : Ex → Frame → M α) :
    evC T (env k) k scan_long.u9.c (frameL [(1, .str x0), (5, .int .i64 x1), (27, .bool x2)]) K =
      scan_long.u9.f k x0 x1 x2 (fun y0 => K (.exit 3) (frameL [(5, .int .i64 y0)])) :=
  evC_loop.trans <| (evLoop_keep (body := evC T (env k) k scan_long.u8.c) (keep := [1, 5]) (ρ := (frameL [(1, .str x0), (5, .int .i64 x1), (27, .bool x2)])) (ρ' := (frameL [(1, .str x0), (5, .int .i64 x1)])) (by kernel_rfl) k K).trans (scan_long.u9.okl k K k x0 x1)
theorem scan_long.u10.ok {α : Type} (k : Nat) (x0 : List UInt8) (x1 : Int) (x2 : Bool) (K : Ex → Frame → M α) :
    evC T (env k) k scan_long.u10.c (frameL [(1, .str x0), (5, .int .i64 x1), (27, .bool x2)]) K =
      scan_long.u10.f k x0 x1 x2 (fun y0 => K .normal (frameL [(5, .int .i64 y0)])) :=
  (evC_block.trans (scan_long.u9.ok k x0 x1 x2 (blockK 3 K))).trans (by kernel_rfl)
theorem scan_long.u11.ok {α : Type} (k : Nat) (x0 : List UInt8) (x1 : Int) (x2 : Bool) (K : Ex → Frame → M α) :
    evC T (env k) k scan_long.u11.c (frameL [(1, .str x0), (5, .int .i64 x1), (27, .bool x2)]) K =
      scan_long.u11.f k x0 x1 x2 (fun y0 => K .normal (frameL [(5, .int .i64 y0)])) := by kernel_rfl
theorem scan_long.u12.ok {α : Type} (k : Nat) (x0 : List UInt8) (x1 : Int) (x2 : Bool) (K : Ex → Frame → M α) :
    evC T (env k) k scan_long.u12.c (frameL [(1, .str x0), (5, .int .i64 x1), (27, .bool x2)]) K =
      scan_long.u12.f k x0 x1 x2 (fun y0 => K .normal (frameL [(5, .int .i64 y0)])) :=
  by
    cases x2
    · exact scan_long.u11.ok k x0 x1 false K
    · exact scan_long.u10.ok k x0 x1 true K
theorem scan_long.u13.ok {α : Type} (k : Nat) (x0 : List UInt8) (x1 : Int) (x2 : Int) (x3 : Bool) (K : Ex → Frame → M α) :
    evC T (env k) k scan_long.u13.c (frameL [(1, .str x0), (5, .int .i64 x1), (6, .int .i64 x2), (7, .bool x3)]) K =
      scan_long.u13.f k x0 x1 x2 x3 (fun y0 => K .normal (frameL [(5, .int .i64 y0)])) :=
  (scan_long.u7.ok k x0 x1 x2 x3 scan_long.u12.c K).trans
    (congrArg (fun z => scan_long.u7.f k x0 x1 x2 x3 z) (funext fun y0 => (funext fun y1 => (funext fun y2 => scan_long.u12.ok k y0 y1 y2 K))))
theorem scan_long.u14.ok {α : Type} (k : Nat) (x0 : List UInt8) (x1 : Int) (x2 : Int) (x3 : Bool) (K : Ex → Frame → M α) :
    evC T (env k) k scan_long.u14.c (frameL [(1, .str x0), (5, .int .i64 x1), (6, .int .i64 x2), (7, .bool x3)]) K =
      scan_long.u14.f k x0 x1 x2 x3 (fun y0 => K .normal (frameL [(5, .int .i64 y0)])) :=
  by
    cases x3
    · exact scan_long.u13.ok k x0 x1 x2 false K
    · exact scan_long.u6.ok k x0 x1 x2 true K
theorem scan_long.u15.ok {α : Type} (k : Nat) (x0 : List UInt8) (x1 : Int) (x2 : Int) (K : Ex → Frame → M α) :
    evC T (env k) k scan_long.u15.c (frameL [(1, .str x0), (5, .int .i64 x1), (6, .int .i64 x2)]) K =
      scan_long.u15.f k x0 x1 x2 (fun y0 => K .normal (frameL [(5, .int .i64 y0)])) :=
  (scan_long.u3.ok k x0 x1 x2 scan_long.u14.c K).trans
    (congrArg (fun z => scan_long.u3.f k x0 x1 x2 z) (funext fun y0 => (funext fun y1 => (funext fun y2 => (funext fun y3 => scan_long.u14.ok k y0 y1 y2 y3 K)))))
theorem scan_long.u16.ok {α : Type} (k : Nat) (x0 : List UInt8) (x1 : Int) (x2 : Int) (K : Ex → Frame → M α) :
    evC T (env k) k scan_long.u16.c (frameL [(1, .str x0), (5, .int .i64 x1), (6, .int .i64 x2)]) K =
      scan_long.u16.f k x0 x1 x2 (fun y0 => K .normal (frameL [(5, .int .i64 y0)])) :=
  (evC_block.trans (scan_long.u15.ok k x0 x1 x2 (blockK 0 K))).trans (by kernel_rfl)
theorem scan_long.u17.ok {α : Type} (k : Nat) (x0 : Int) (x1 : List UInt8) (x2 : Int) (K : Ex → Frame → M α) :
    evC T (env k) k scan_long.u17.c (frameL [(0, .int .i64 x0), (1, .str x1), (5, .int .i64 x2)]) K =
      scan_long.u17.f k x0 x1 x2 (fun y0 => K .normal (frameL [(5, .int .i64 y0)])) :=
  (scan_long.u2.ok k x0 x1 x2 scan_long.u16.c K).trans
    (congrArg (fun z => scan_long.u2.f k x0 x1 x2 z) (funext fun y0 => (funext fun y1 => (funext fun y2 => scan_long.u16.ok k y0 y1 y2 K))))
theorem scan_long.u18.ok {α : Type} (k : Nat) (x0 : Int) (K : Ex → Frame → M α) :
    evC T (env k) k scan_long.u18.c (frameL [(5, .int .i64 x0)]) K =
      scan_long.u18.f k x0 (fun y0 => K .ret (frameL [(4, .int .i64 y0)])) := by kernel_rfl
theorem scan_long.u19.ok {α : Type} (k : Nat) (x0 : Int) (x1 : List UInt8) (x2 : Int) (K : Ex → Frame → M α) :
    evC T (env k) k scan_long.u19.c (frameL [(0, .int .i64 x0), (1, .str x1), (5, .int .i64 x2)]) K =
      scan_long.u19.f k x0 x1 x2 (fun y0 => K .ret (frameL [(4, .int .i64 y0)])) :=
  by
    have h := scan_long.u17.ok k x0 x1 x2 (seqK (fun ρ => evC T (env k) k scan_long.u18.c ρ K) K)
    simp only [seqK_normal, seqK_exit, seqK_ret, seqK_pan, scan_long.u18.ok] at h
    exact evC_seq_of h
theorem scan_long.u20.ok {α : Type} (k : Nat) (x0 : Int) (x1 : List UInt8) (K : Ex → Frame → M α) :
    evC T (env k) k scan_long.u20.c (frameL [(0, .int .i64 x0), (1, .str x1)]) K =
      scan_long.u20.f k x0 x1 (fun y0 => K .ret (frameL [(4, .int .i64 y0)])) :=
  (scan_long.u1.ok k x0 x1 scan_long.u19.c K).trans
    (congrArg (fun z => scan_long.u1.f k x0 x1 z) (funext fun y0 => (funext fun y1 => (funext fun y2 => scan_long.u19.ok k y0 y1 y2 K))))
theorem scan_long.ok {α : Type} (k : Nat) (x0 : Int) (x1 : List UInt8) (κ : Res → M α) :
    evF T (env k) k scan_long.c scan_long.res [.int .i64 x0, .str x1] κ = scan_long.f (k + 1) x0 x1 (fun o0 => κ (.ret (.int .i64 o0))) :=
  (scan_long.u20.ok k x0 x1 (retK T scan_long.res κ)).trans (by kernel_rfl)
theorem scan_long.code : scan_long.c.code = bodyOf Tryd.f21 := by kernel_rfl

noncomputable def scan_value.c : IC := scan_value.u11.c
noncomputable def scan_value.res : List ResultVar := [(.tmp 2), (.tmp 3)]
theorem scan_value.u1.ok {α : Type} (k : Nat) (x0 : List UInt8) (R : IC) (K : Ex → Frame → M α) :
    evC T (env k) k (scan_value.u1.c R) (frameL [(0, .str x0)]) K =
      scan_value.u1.f k x0 (fun y0 => evC T (env k) k R (frameL [(0, .str y0)]) K) (fun y0 y1 => K .ret (frameL [(2, .int .i64 y0), (3, .bool y1)])) := by kernel_rfl
theorem scan_value.u2.ok {α : Type} (k : Nat) (x0 : List UInt8) (R : IC) (K : Ex → Frame → M α) :
    evC T (env k) k (scan_value.u2.c R) (frameL [(0, .str x0)]) K =
      scan_value.u2.f k x0 (fun y0 y1 => evC T (env k) k R (frameL [(0, .str y0), (4, .int .i64 y1)]) K) := by kernel_rfl
theorem scan_value.u3.ok {α : Type} (k : Nat) (x0 : List UInt8) (x1 : Int) (R : IC) (K : Ex → Frame → M α) :
    evC T (env k) k (scan_value.u3.c R) (frameL [(0, .str x0), (4, .int .i64 x1)]) K =
      scan_value.u3.f k x0 x1 (fun y0 y1 y2 y3 => evC T (env k) k R (frameL [(0, .str y0), (4, .int .i64 y1), (20, .int .i64 y2), (21, .int .i64 y3)]) K) := by kernel_rfl
theorem scan_value.u4.ok {α : Type} (k : Nat) (x0 : List UInt8) (x1 : Int) (x2 : Int) (x3 : Int) (K : Ex → Frame → M α) :
    evC T (env k) k scan_value.u4.c (frameL [(0, .str x0), (4, .int .i64 x1), (20, .int .i64 x2), (21, .int .i64 x3)]) K =
      scan_value.u4.f k x0 x1 x2 x3 (fun y0 y1 y2 y3 => K .normal (frameL [(0, .str y0), (4, .int .i64 y1), (20, .int .i64 y2), (21, .int .i64 y3)])) (fun y0 => K (.exit 0) (frameL [(4, .int .i64 y0)])) := by kernel_rfl
theorem scan_value.u5.ls {α : Type} (k : Nat) (kx0 : Int → M α) (j : Nat) (x0 : List UInt8) (x1 : Int) (x2 : Int) (x3 : Int) : scan_value.u5.l k kx0 (j + 1) x0 x1 x2 x3 =
  scan_value.u4.f k x0 x1 x2 x3 (fun y0 y1 y2 y3 => scan_value.u5.l k kx0 j y0 y1 y2 y3) kx0 := rfl
theorem scan_value.u5.okl {α : Type} (k : Nat) (K : Ex → Frame → M α) : ∀ (j : Nat) (x0 : List UInt8) (x1 : Int) (x2 : Int) (x3 : Int),
    evLoop (evC T (env k) k scan_value.u4.c) [0, 4, 20, 21] j (frameL [(0, .str x0), (4, .int .i64 x1), (20, .int .i64 x2), (21, .int .i64 x3)]) K = scan_value.u5.l k (fun y0 => K (.exit 0) (frameL [(4, .int .i64 y0)])) j x0 x1 x2 x3
  | 0, _, _, _, _ => rfl
  | j + 1, x0, x1, x2, x3 => by
      have h := scan_value.u4.ok k x0 x1 x2 x3 (seqK (fun ρ => evLoop (evC T (env k) k scan_value.u4.c) [0, 4, 20, 21] j ρ K) K)
      simp only [seqK_exit, seqK_ret, seqK_pan, seqK_normal, scan_value.u5.okl k K j] at h
      exact (evLoop_step (by kernel_rfl) h).trans (scan_value.u5.ls k (fun y0 => K (.exit 0) (frameL [(4, .int .i64 y0)])) j x0 x1 x2 x3).symm
theorem scan_value.u5.ok {α : Type} (k : Nat) (x0 : List UInt8) (x1 : Int) (x2 : Int) (x3 : Int) (K : Ex → Frame → M α) :
    evC T (env k) k scan_value.u5.c (frameL [(0, .str x0), (4, .int .i64 x1), (20, .int .i64 x2), (21, .int .i64 x3)]) K =
      scan_value.u5.f k x0 x1 x2 x3 (fun y0 => K (.exit 0) (frameL [(4, .int .i64 y0)])) :=
  evC_loop.trans <| (evLoop_keep (body := evC T (env k) k scan_value.u4.c) (keep := [0, 4, 20, 21]) (ρ := (frameL [(0, .str x0), (4, .int .i64 x1), (20, .int .i64 x2), (21, .int .i64 x3)])) (ρ' := (frameL [(0, .str x0), (4, .int .i64 x1), (20, .int .i64 x2), (21, .int .i64 x3)])) (by kernel_rfl) k K).trans (scan_value.u5.okl k K k x0 x1 x2 x3)
theorem scan_value.u6.ok {α : Type} (k : Nat) (x0 : List UInt8) (x1 : Int) (x2 : Int) (x3 : Int) (K : Ex → Frame → M α) :
    evC T (env k) k scan_value.u6.c (frameL [(0, .str x0), (4, .int .i64 x1), (20, .int .i64 x2), (21, .int .i64 x3)]) K =
      scan_value.u6.f k x0 x1 x2 x3 (fun y0 => K .normal (frameL [(4, .int .i64 y0)])) :=
  (evC_block.trans (scan_value.u5.ok k x0 x1 x2 x3 (blockK 0 K))).trans (by kernel_rfl)
theorem scan_value.u7.ok {α : Type} (k : Nat) (x0 : List UInt8) (x1 : Int) (K : Ex → Frame → M α) :
    evC T (env k) k scan_value.u7.c (frameL [(0, .str x0), (4, .int .i64 x1)]) K =
      scan_value.u7.f k x0 x1 (fun y0 => K .normal (frameL [(4, .int .i64 y0)])) :=
  (scan_value.u3.ok k x0 x1 scan_value.u6.c K).trans
    (congrArg (fun z => scan_value.u3.f k x0 x1 z) (funext fun y0 => (funext fun y1 => (funext fun y2 => (funext fun y3 => scan_value.u6.ok k y0 y1 y2 y3 K)))))
theorem scan_value.u8.ok {α : Type} (k : Nat) (x0 : Int) (K : Ex → Frame → M α) :
    evC T (env k) k scan_value.u8.c (frameL [(4, .int .i64 x0)]) K =
      scan_value.u8.f k x0 (fun y0 y1 => K .ret (frameL [(2, .int .i64 y0), (3, .bool y1)])) := by kernel_rfl
theorem scan_value.u9.ok {α : Type} (k : Nat) (x0 : List UInt8) (x1 : Int) (K : Ex → Frame → M α) :
    evC T (env k) k scan_value.u9.c (frameL [(0, .str x0), (4, .int .i64 x1)]) K =
      scan_value.u9.f k x0 x1 (fun y0 y1 => K .ret (frameL [(2, .int .i64 y0), (3, .bool y1)])) :=
  by
    have h := scan_value.u7.ok k x0 x1 (seqK (fun ρ => evC T (env k) k scan_value.u8.c ρ K) K)
    simp only [seqK_normal, seqK_exit, seqK_ret, seqK_pan, scan_value.u8.ok] at h
    exact evC_seq_of h
theorem scan_value.u10.ok {α : Type} (k : Nat) (x0 : List UInt8) (K : Ex → Frame → M α) :
    evC T (env k) k scan_value.u10.c (frameL [(0, .str x0)]) K =
      scan_value.u10.f k x0 (fun y0 y1 => K .ret (frameL [(2, .int .i64 y0), (3, .bool y1)])) :=
  (scan_value.u2.ok k x0 scan_value.u9.c K).trans
    (congrArg (fun z => scan_value.u2.f k x0 z) (funext fun y0 => (funext fun y1 => scan_value.u9.ok k y0 y1 K)))
theorem scan_value.u11.ok {α : Type} (k : Nat) (x0 : List UInt8) (K : Ex → Frame → M α) :
    evC T (env k) k scan_value.u11.c (frameL [(0, .str x0)]) K =
      scan_value.u11.f k x0 (fun y0 y1 => K .ret (frameL [(2, .int .i64 y0), (3, .bool y1)])) :=
  (scan_value.u1.ok k x0 scan_value.u10.c K).trans
    (congrArg (fun z => scan_value.u1.f k x0 z (fun y0 y1 => K .ret (frameL [(2, .int .i64 y0), (3, .bool y1)]))) (funext fun y0 => scan_value.u10.ok k y0 K))
theorem scan_value.ok {α : Type} (k : Nat) (x0 : List UInt8) (κ : Res → M α) :
    evF T (env k) k scan_value.c scan_value.res [.str x0] κ = scan_value.f (k + 1) x0 (fun o0 o1 => κ (.ret (.tuple [.int .i64 o0, .bool o1]))) :=
  (scan_value.u11.ok k x0 (retK T scan_value.res κ)).trans (by kernel_rfl)
theorem scan_value.code : scan_value.c.code = bodyOf Tryd.f22 := by kernel_rfl

noncomputable def scan_token.c : IC := scan_token.u1.c
noncomputable def scan_token.res : List ResultVar := [(.cell 4 35), (.tmp 5)]
theorem scan_token.u1.ok {α : Type} (k : Nat) (x0 : List UInt8) (x1 : Int) (K : Ex → Frame → M α) :
    evC T (env k) k scan_token.u1.c (frameL [(0, .str x0), (1, .int .i64 x1)]) K =
      scan_token.u1.f k x0 x1 (fun y0 y1 => K .ret (frameL [(4, .ptr (some y0)), (5, .int .i64 y1)])) := by kernel_rfl
theorem scan_token.ok {α : Type} (k : Nat) (x0 : List UInt8) (x1 : Int) (κ : Res → M α) :
    evF T (env k) k scan_token.c scan_token.res [.str x0, .int .i64 x1] κ = scan_token.f (k + 1) x0 x1 (fun o0 o1 o2 o3 o4 => κ (.ret (.tuple [.agg [.int .i64 o0, .int .i64 o1, .str o2, .int .i64 o3], .int .i64 o4]))) :=
  (scan_token.u1.ok k x0 x1 (retK T scan_token.res κ)).trans (by kernel_rfl)
theorem scan_token.code : scan_token.c.code = bodyOf Tryd.f16 := by kernel_rfl

noncomputable def scan_All.c : IC := scan_All.u9.c
noncomputable def scan_All.res : List ResultVar := [(.tmp 2), (.tmp 3)]
theorem scan_All.u1.ok {α : Type} (k : Nat) (x0 : List UInt8) (R : IC) (K : Ex → Frame → M α) :
    evC T (env k) k (scan_All.u1.c R) (frameL [(0, .str x0)]) K =
      scan_All.u1.f k x0 (fun y0 y1 => evC T (env k) k R (frameL [(0, .str y0), (4, .slice y1)]) K) (fun y0 y1 => K .ret (frameL [(2, .slice y0), (3, .iface 42 (.ptr (some y1)))])) := by kernel_rfl
theorem scan_All.u2.ok {α : Type} (k : Nat) (x0 : List UInt8) (x1 : Sl) (R : IC) (K : Ex → Frame → M α) :
    evC T (env k) k (scan_All.u2.c R) (frameL [(0, .str x0), (4, .slice x1)]) K =
      scan_All.u2.f k x0 x1 (fun y0 y1 y2 => evC T (env k) k R (frameL [(0, .str y0), (4, .slice y1), (5, .int .i64 y2)]) K) := by kernel_rfl
theorem scan_All.u3.ok {α : Type} (k : Nat) (x0 : List UInt8) (x1 : Sl) (x2 : Int) (K : Ex → Frame → M α) :
    evC T (env k) k scan_All.u3.c (frameL [(0, .str x0), (4, .slice x1), (5, .int .i64 x2)]) K =
      scan_All.u3.f k x0 x1 x2 (fun y0 y1 y2 => K .normal (frameL [(0, .str y0), (4, .slice y1), (5, .int .i64 y2)])) (fun y0 y1 => K .ret (frameL [(2, .slice y0), (3, .iface 42 (.ptr (some y1)))])) (fun y0 y1 => K (.exit 0) (frameL [(0, .str y0), (4, .slice y1)])) := by kernel_rfl
theorem scan_All.u4.ls {α : Type} (k : Nat) (kr : Sl → Ad → M α) (kx0 : List UInt8 → Sl → M α) (j : Nat) (x0 : List UInt8) (x1 : Sl) (x2 : Int) : scan_All.u4.l k kr kx0 (j + 1) x0 x1 x2 =
  scan_All.u3.f k x0 x1 x2 (fun y0 y1 y2 => scan_All.u4.l k kr kx0 j y0 y1 y2) kr kx0 := rfl
theorem scan_All.u4.okl {α : Type} (k : Nat) (K : Ex → Frame → M α) : ∀ (j : Nat) (x0 : List UInt8) (x1 : Sl) (x2 : Int),
    evLoop (evC T (env k) k scan_All.u3.c) [0, 4, 5] j (frameL [(0, .str x0), (4, .slice x1), (5, .int .i64 x2)]) K = scan_All.u4.l k (fun y0 y1 => K .ret (frameL [(2, .slice y0), (3, .iface 42 (.ptr (some y1)))])) (fun y0 y1 => K (.exit 0) (frameL [(0, .str y0), (4, .slice y1)])) j x0 x1 x2
  | 0, _, _, _ => rfl
  | j + 1, x0, x1, x2 => by
      have h := scan_All.u3.ok k x0 x1 x2 (seqK (fun ρ => evLoop (evC T (env k) k scan_All.u3.c) [0, 4, 5] j ρ K) K)
      simp only [seqK_exit, seqK_ret, seqK_pan, seqK_normal, scan_All.u4.okl k K j] at h
      exact (evLoop_step (by kernel_rfl) h).trans (scan_All.u4.ls k (fun y0 y1 => K .ret (frameL [(2, .slice y0), (3, .iface 42 (.ptr (some y1)))])) (fun y0 y1 => K (.exit 0) (frameL [(0, .str y0), (4, .slice y1)])) j x0 x1 x2).symm
theorem scan_All.u4.ok {α : Type} (k : Nat) (x0 : List UInt8) (x1 : Sl) (x2 : Int) (K : Ex → Frame → M α) :
    evC T (env k) k scan_All.u4.c (frameL [(0, .str x0), (4, .slice x1), (5, .int .i64 x2)]) K =
      scan_All.u4.f k x0 x1 x2 (fun y0 y1 => K .ret (frameL [(2, .slice y0), (3, .iface 42 (.ptr (some y1)))])) (fun y0 y1 => K (.exit 0) (frameL [(0, .str y0), (4, .slice y1)])) :=
  evC_loop.trans <| (evLoop_keep (body := evC T (env k) k scan_All.u3.c) (keep := [0, 4, 5]) (ρ := (frameL [(0, .str x0), (4, .slice x1), (5, .int .i64 x2)])) (ρ' := (frameL [(0, .str x0), (4, .slice x1), (5, .int .i64 x2)])) (by kernel_rfl) k K).trans (scan_All.u4.okl k K k x0 x1 x2)
theorem scan_All.u5.ok {α : Type} (k : Nat) (x0 : List UInt8) (x1 : Sl) (x2 : Int) (K : Ex → Frame → M α) :
    evC T (env k) k scan_All.u5.c (frameL [(0, .str x0), (4, .slice x1), (5, .int .i64 x2)]) K =
      scan_All.u5.f k x0 x1 x2 (fun y0 y1 => K .normal (frameL [(0, .str y0), (4, .slice y1)])) (fun y0 y1 => K .ret (frameL [(2, .slice y0), (3, .iface 42 (.ptr (some y1)))])) :=
  (evC_block.trans (scan_All.u4.ok k x0 x1 x2 (blockK 0 K))).trans (by kernel_rfl)
theorem scan_All.u6.ok {α : Type} (k : Nat) (x0 : List UInt8) (x1 : Sl) (K : Ex → Frame → M α) :
    evC T (env k) k scan_All.u6.c (frameL [(0, .str x0), (4, .slice x1)]) K =
      scan_All.u6.f k x0 x1 (fun y0 y1 => K .normal (frameL [(0, .str y0), (4, .slice y1)])) (fun y0 y1 => K .ret (frameL [(2, .slice y0), (3, .iface 42 (.ptr (some y1)))])) :=
  (scan_All.u2.ok k x0 x1 scan_All.u5.c K).trans
    (congrArg (fun z => scan_All.u2.f k x0 x1 z) (funext fun y0 => (funext fun y1 => (funext fun y2 => scan_All.u5.ok k y0 y1 y2 K))))
theorem scan_All.u7.ok {α : Type} (k : Nat) (x0 : List UInt8) (x1 : Sl) (K : Ex → Frame → M α) :
    evC T (env k) k scan_All.u7.c (frameL [(0, .str x0), (4, .slice x1)]) K =
      scan_All.u7.f k x0 x1 (fun y0 => K .ret (frameL [(2, .slice y0), (3, .nilIface)])) := by kernel_rfl
theorem scan_All.u8.ok {α : Type} (k : Nat) (x0 : List UInt8) (x1 : Sl) (K : Ex → Frame → M α) :
    evC T (env k) k scan_All.u8.c (frameL [(0, .str x0), (4, .slice x1)]) K =
      scan_All.u8.f k x0 x1 (fun y0 y1 => K .ret (frameL [(2, .slice y0), (3, y1)])) :=
  by
    have h := scan_All.u6.ok k x0 x1 (seqK (fun ρ => evC T (env k) k scan_All.u7.c ρ K) K)
    simp only [seqK_normal, seqK_exit, seqK_ret, seqK_pan, scan_All.u7.ok] at h
    exact evC_seq_of h
theorem scan_All.u9.ok {α : Type} (k : Nat) (x0 : List UInt8) (K : Ex → Frame → M α) :
    evC T (env k) k scan_All.u9.c (frameL [(0, .str x0)]) K =
      scan_All.u9.f k x0 (fun y0 y1 => K .ret (frameL [(2, .slice y0), (3, y1)])) :=
  (scan_All.u1.ok k x0 scan_All.u8.c K).trans
    (congrArg (fun z => scan_All.u1.f k x0 z (fun y0 y1 => K .ret (frameL [(2, .slice y0), (3, .iface 42 (.ptr (some y1)))]))) (funext fun y0 => (funext fun y1 => scan_All.u8.ok k y0 y1 K)))
theorem scan_All.ok {α : Type} (k : Nat) (x0 : List UInt8) (κ : Res → M α) :
    evF T (env k) k scan_All.c scan_All.res [.str x0] κ = scan_All.f (k + 1) x0 (fun o0 o1 => κ (.ret (.tuple [.slice o0, o1]))) :=
  (scan_All.u9.ok k x0 (retK T scan_All.res κ)).trans (by kernel_rfl)
theorem scan_All.code : scan_All.c.code = bodyOf Tryd.f11 := by kernel_rfl

noncomputable def bailifflaw02_fault.c : IC := bailifflaw02_fault.u1.c
noncomputable def bailifflaw02_fault.res : List ResultVar := [(.tmp 2), (.tmp 3)]
theorem bailifflaw02_fault.u1.ok {α : Type} (k : Nat) (x0 : V) (K : Ex → Frame → M α) :
    evC T (env k) k bailifflaw02_fault.u1.c (frameL [(0, x0)]) K =
      bailifflaw02_fault.u1.f k x0 (fun y0 y1 => K .ret (frameL [(2, .int .i64 y0), (3, .int .i64 y1)])) := by kernel_rfl
theorem bailifflaw02_fault.ok {α : Type} (k : Nat) (x0 : V) (κ : Res → M α) :
    evF T (env k) k bailifflaw02_fault.c bailifflaw02_fault.res [x0] κ = bailifflaw02_fault.f (k + 1) x0 (fun o0 o1 => κ (.ret (.tuple [.int .i64 o0, .int .i64 o1]))) :=
  (bailifflaw02_fault.u1.ok k x0 (retK T bailifflaw02_fault.res κ)).trans (by kernel_rfl)
theorem bailifflaw02_fault.code : bailifflaw02_fault.c.code = bodyOf Tryd.f13 := by kernel_rfl

noncomputable def bailifflaw02_shown.c : IC := bailifflaw02_shown.u1.c
noncomputable def bailifflaw02_shown.res : List ResultVar := [(.tmp 0)]
theorem bailifflaw02_shown.u1.ok {α : Type} (k : Nat) (K : Ex → Frame → M α) :
    evC T (env k) k bailifflaw02_shown.u1.c (frameL []) K =
      bailifflaw02_shown.u1.f k (fun y0 => K .ret (frameL [(0, .bool y0)])) := by kernel_rfl
theorem bailifflaw02_shown.ok {α : Type} (k : Nat) (κ : Res → M α) :
    evF T (env k) k bailifflaw02_shown.c bailifflaw02_shown.res [] κ = bailifflaw02_shown.f (k + 1) (fun o0 => κ (.ret (.bool o0))) :=
  (bailifflaw02_shown.u1.ok k (retK T bailifflaw02_shown.res κ)).trans (by kernel_rfl)
theorem bailifflaw02_shown.code : bailifflaw02_shown.c.code = bodyOf Tryd.f10 := by kernel_rfl

noncomputable def bailiffref02_small.c : IC := bailiffref02_small.u1.c
noncomputable def bailiffref02_small.res : List ResultVar := [(.tmp 2)]
theorem bailiffref02_small.u1.ok {α : Type} (k : Nat) (x0 : Int) (K : Ex → Frame → M α) :
    evC T (env k) k bailiffref02_small.u1.c (frameL [(0, .int .u8 x0)]) K =
      bailiffref02_small.u1.f k x0 (fun y0 => K .ret (frameL [(2, .bool y0)])) := by kernel_rfl
theorem bailiffref02_small.ok {α : Type} (k : Nat) (x0 : Int) (κ : Res → M α) :
    evF T (env k) k bailiffref02_small.c bailiffref02_small.res [.int .u8 x0] κ = bailiffref02_small.f (k + 1) x0 (fun o0 => κ (.ret (.bool o0))) :=
  (bailiffref02_small.u1.ok k x0 (retK T bailiffref02_small.res κ)).trans (by kernel_rfl)
theorem bailiffref02_small.code : bailiffref02_small.c.code = bodyOf Tryd.f23 := by kernel_rfl

noncomputable def bailiffref02_capital.c : IC := bailiffref02_capital.u1.c
noncomputable def bailiffref02_capital.res : List ResultVar := [(.tmp 2)]
theorem bailiffref02_capital.u1.ok {α : Type} (k : Nat) (x0 : Int) (K : Ex → Frame → M α) :
    evC T (env k) k bailiffref02_capital.u1.c (frameL [(0, .int .u8 x0)]) K =
      bailiffref02_capital.u1.f k x0 (fun y0 => K .ret (frameL [(2, .bool y0)])) := by kernel_rfl
theorem bailiffref02_capital.ok {α : Type} (k : Nat) (x0 : Int) (κ : Res → M α) :
    evF T (env k) k bailiffref02_capital.c bailiffref02_capital.res [.int .u8 x0] κ = bailiffref02_capital.f (k + 1) x0 (fun o0 => κ (.ret (.bool o0))) :=
  (bailiffref02_capital.u1.ok k x0 (retK T bailiffref02_capital.res κ)).trans (by kernel_rfl)
theorem bailiffref02_capital.code : bailiffref02_capital.c.code = bodyOf Tryd.f24 := by kernel_rfl

noncomputable def bailiffref02_digit.c : IC := bailiffref02_digit.u1.c
noncomputable def bailiffref02_digit.res : List ResultVar := [(.tmp 2)]
theorem bailiffref02_digit.u1.ok {α : Type} (k : Nat) (x0 : Int) (K : Ex → Frame → M α) :
    evC T (env k) k bailiffref02_digit.u1.c (frameL [(0, .int .u8 x0)]) K =
      bailiffref02_digit.u1.f k x0 (fun y0 => K .ret (frameL [(2, .bool y0)])) := by kernel_rfl
theorem bailiffref02_digit.ok {α : Type} (k : Nat) (x0 : Int) (κ : Res → M α) :
    evF T (env k) k bailiffref02_digit.c bailiffref02_digit.res [.int .u8 x0] κ = bailiffref02_digit.f (k + 1) x0 (fun o0 => κ (.ret (.bool o0))) :=
  (bailiffref02_digit.u1.ok k x0 (retK T bailiffref02_digit.res κ)).trans (by kernel_rfl)
theorem bailiffref02_digit.code : bailiffref02_digit.c.code = bodyOf Tryd.f25 := by kernel_rfl

noncomputable def bailiffref02_inner.c : IC := bailiffref02_inner.u1.c
noncomputable def bailiffref02_inner.res : List ResultVar := [(.tmp 2)]
theorem bailiffref02_inner.u1.ok {α : Type} (k : Nat) (x0 : Int) (K : Ex → Frame → M α) :
    evC T (env k) k bailiffref02_inner.u1.c (frameL [(0, .int .u8 x0)]) K =
      bailiffref02_inner.u1.f k x0 (fun y0 => K .ret (frameL [(2, .bool y0)])) := by kernel_rfl
theorem bailiffref02_inner.ok {α : Type} (k : Nat) (x0 : Int) (κ : Res → M α) :
    evF T (env k) k bailiffref02_inner.c bailiffref02_inner.res [.int .u8 x0] κ = bailiffref02_inner.f (k + 1) x0 (fun o0 => κ (.ret (.bool o0))) :=
  (bailiffref02_inner.u1.ok k x0 (retK T bailiffref02_inner.res κ)).trans (by kernel_rfl)
theorem bailiffref02_inner.code : bailiffref02_inner.c.code = bodyOf Tryd.f33 := by kernel_rfl

noncomputable def bailiffref02_name.c : IC := bailiffref02_name.u7.c
noncomputable def bailiffref02_name.res : List ResultVar := [(.tmp 4)]
theorem bailiffref02_name.u1.ok {α : Type} (k : Nat) (x0 : List UInt8) (x1 : Int) (R : IC) (K : Ex → Frame → M α) :
    evC T (env k) k (bailiffref02_name.u1.c R) (frameL [(0, .str x0), (1, .int .i64 x1)]) K =
      bailiffref02_name.u1.f k x0 x1 (fun y0 y1 => evC T (env k) k R (frameL [(0, .str y0), (5, .int .i64 y1)]) K) := by kernel_rfl
theorem bailiffref02_name.u2.ok {α : Type} (k : Nat) (x0 : List UInt8) (x1 : Int) (K : Ex → Frame → M α) :
    evC T (env k) k bailiffref02_name.u2.c (frameL [(0, .str x0), (5, .int .i64 x1)]) K =
      bailiffref02_name.u2.f k x0 x1 (fun y0 y1 => K .normal (frameL [(0, .str y0), (5, .int .i64 y1)])) (fun y0 => K (.exit 0) (frameL [(5, .int .i64 y0)])) := by kernel_rfl
theorem bailiffref02_name.u3.ls {α : Type} (k : Nat) (kx0 : Int → M α) (j : Nat) (x0 : List UInt8) (x1 : Int) : bailiffref02_name.u3.l k kx0 (j + 1) x0 x1 =
  bailiffref02_name.u2.f k x0 x1 (fun y0 y1 => bailiffref02_name.u3.l k kx0 j y0 y1) kx0 := rfl
theorem bailiffref02_name.u3.okl {α : Type} (k : Nat) (K : Ex → Frame → M α) : ∀ (j : Nat) (x0 : List UInt8) (x1 : Int),
    evLoop (evC T (env k) k bailiffref02_name.u2.c) [0, 5] j (frameL [(0, .str x0), (5, .int .i64 x1)]) K = bailiffref02_name.u3.l k (fun y0 => K (.exit 0) (frameL [(5, .int .i64 y0)])) j x0 x1
  | 0, _, _ => rfl
  | j + 1, x0, x1 => by
      have h := bailiffref02_name.u2.ok k x0 x1 (seqK (fun ρ => evLoop (evC T (env k) k bailiffref02_name.u2.c) [0, 5] j ρ K) K)
      simp only [seqK_exit, seqK_ret, seqK_pan, seqK_normal, bailiffref02_name.u3.okl k K j] at h
      exact (evLoop_step (by kernel_rfl) h).trans (bailiffref02_name.u3.ls k (fun y0 => K (.exit 0) (frameL [(5, .int .i64 y0)])) j x0 x1).symm
theorem bailiffref02_name.u3.ok {α : Type} (k : Nat) (x0 : List UInt8) (x1 : Int) (K : Ex → Frame → M α) :
    evC T (env k) k bailiffref02_name.u3.c (frameL [(0, .str x0), (5, .int .i64 x1)]) K =
      bailiffref02_name.u3.f k x0 x1 (fun y0 => K (.exit 0) (frameL [(5, .int .i64 y0)])) :=
  evC_loop.trans <| (evLoop_keep (body := evC T (env k) k bailiffref02_name.u2.c) (keep := [0, 5]) (ρ := (frameL [(0, .str x0), (5, .int .i64 x1)])) (ρ' := (frameL [(0, .str x0), (5, .int .i64 x1)])) (by kernel_rfl) k K).trans (bailiffref02_name.u3.okl k K k x0 x1)
theorem bailiffref02_name.u4.ok {α : Type} (k : Nat) (x0 : List UInt8) (x1 : Int) (K : Ex → Frame → M α) :
    evC T (env k) k bailiffref02_name.u4.c (frameL [(0, .str x0), (5, .int .i64 x1)]) K =
      bailiffref02_name.u4.f k x0 x1 (fun y0 => K .normal (frameL [(5, .int .i64 y0)])) :=
  (evC_block.trans (bailiffref02_name.u3.ok k x0 x1 (blockK 0 K))).trans (by kernel_rfl)
theorem bailiffref02_name.u5.ok {α : Type} (k : Nat) (x0 : Int) (K : Ex → Frame → M α) :
    evC T (env k) k bailiffref02_name.u5.c (frameL [(5, .int .i64 x0)]) K =
      bailiffref02_name.u5.f k x0 (fun y0 => K .ret (frameL [(4, .int .i64 y0)])) := by kernel_rfl
theorem bailiffref02_name.u6.ok {α : Type} (k : Nat) (x0 : List UInt8) (x1 : Int) (K : Ex → Frame → M α) :
    evC T (env k) k bailiffref02_name.u6.c (frameL [(0, .str x0), (5, .int .i64 x1)]) K =
      bailiffref02_name.u6.f k x0 x1 (fun y0 => K .ret (frameL [(4, .int .i64 y0)])) :=
  by
    have h := bailiffref02_name.u4.ok k x0 x1 (seqK (fun ρ => evC T (env k) k bailiffref02_name.u5.c ρ K) K)
    simp only [seqK_normal, seqK_exit, seqK_ret, seqK_pan, bailiffref02_name.u5.ok] at h
    exact evC_seq_of h
theorem bailiffref02_name.u7.ok {α : Type} (k : Nat) (x0 : List UInt8) (x1 : Int) (K : Ex → Frame → M α) :
    evC T (env k) k bailiffref02_name.u7.c (frameL [(0, .str x0), (1, .int .i64 x1)]) K =
      bailiffref02_name.u7.f k x0 x1 (fun y0 => K .ret (frameL [(4, .int .i64 y0)])) :=
  (bailiffref02_name.u1.ok k x0 x1 bailiffref02_name.u6.c K).trans
    (congrArg (fun z => bailiffref02_name.u1.f k x0 x1 z) (funext fun y0 => (funext fun y1 => bailiffref02_name.u6.ok k y0 y1 K)))
theorem bailiffref02_name.ok {α : Type} (k : Nat) (x0 : List UInt8) (x1 : Int) (κ : Res → M α) :
    evF T (env k) k bailiffref02_name.c bailiffref02_name.res [.str x0, .int .i64 x1] κ = bailiffref02_name.f (k + 1) x0 x1 (fun o0 => κ (.ret (.int .i64 o0))) :=
  (bailiffref02_name.u7.ok k x0 x1 (retK T bailiffref02_name.res κ)).trans (by kernel_rfl)
theorem bailiffref02_name.code : bailiffref02_name.c.code = bodyOf Tryd.f26 := by kernel_rfl

noncomputable def bailiffref02_number.c : IC := bailiffref02_number.u7.c
noncomputable def bailiffref02_number.res : List ResultVar := [(.tmp 4), (.tmp 5)]
theorem bailiffref02_number.u1.ok {α : Type} (k : Nat) (x0 : List UInt8) (x1 : Int) (R : IC) (K : Ex → Frame → M α) :
    evC T (env k) k (bailiffref02_number.u1.c R) (frameL [(0, .str x0), (1, .int .i64 x1)]) K =
      bailiffref02_number.u1.f k x0 x1 (fun y0 y1 y2 => evC T (env k) k R (frameL [(0, .str y0), (6, .int .i64 y1), (7, .int .i64 y2)]) K) := by kernel_rfl
theorem bailiffref02_number.u2.ok {α : Type} (k : Nat) (x0 : List UInt8) (x1 : Int) (x2 : Int) (K : Ex → Frame → M α) :
    evC T (env k) k bailiffref02_number.u2.c (frameL [(0, .str x0), (6, .int .i64 x1), (7, .int .i64 x2)]) K =
      bailiffref02_number.u2.f k x0 x1 x2 (fun y0 y1 y2 => K .normal (frameL [(0, .str y0), (6, .int .i64 y1), (7, .int .i64 y2)])) (fun y0 y1 => K (.exit 0) (frameL [(6, .int .i64 y0), (7, .int .i64 y1)])) := by kernel_rfl
theorem bailiffref02_number.u3.ls {α : Type} (k : Nat) (kx0 : Int → Int → M α) (j : Nat) (x0 : List UInt8) (x1 : Int) (x2 : Int) : bailiffref02_number.u3.l k kx0 (j + 1) x0 x1 x2 =
  bailiffref02_number.u2.f k x0 x1 x2 (fun y0 y1 y2 => bailiffref02_number.u3.l k kx0 j y0 y1 y2) kx0 := rfl
theorem bailiffref02_number.u3.okl {α : Type} (k : Nat) (K : Ex → Frame → M α) : ∀ (j : Nat) (x0 : List UInt8) (x1 : Int) (x2 : Int),
    evLoop (evC T (env k) k bailiffref02_number.u2.c) [0, 6, 7] j (frameL [(0, .str x0), (6, .int .i64 x1), (7, .int .i64 x2)]) K = bailiffref02_number.u3.l k (fun y0 y1 => K (.exit 0) (frameL [(6, .int .i64 y0), (7, .int .i64 y1)])) j x0 x1 x2
  | 0, _, _, _ => rfl
  | j + 1, x0, x1, x2 => by
      have h := bailiffref02_number.u2.ok k x0 x1 x2 (seqK (fun ρ => evLoop (evC T (env k) k bailiffref02_number.u2.c) [0, 6, 7] j ρ K) K)
      simp only [seqK_exit, seqK_ret, seqK_pan, seqK_normal, bailiffref02_number.u3.okl k K j] at h
      exact (evLoop_step (by kernel_rfl) h).trans (bailiffref02_number.u3.ls k (fun y0 y1 => K (.exit 0) (frameL [(6, .int .i64 y0), (7, .int .i64 y1)])) j x0 x1 x2).symm
theorem bailiffref02_number.u3.ok {α : Type} (k : Nat) (x0 : List UInt8) (x1 : Int) (x2 : Int) (K : Ex → Frame → M α) :
    evC T (env k) k bailiffref02_number.u3.c (frameL [(0, .str x0), (6, .int .i64 x1), (7, .int .i64 x2)]) K =
      bailiffref02_number.u3.f k x0 x1 x2 (fun y0 y1 => K (.exit 0) (frameL [(6, .int .i64 y0), (7, .int .i64 y1)])) :=
  evC_loop.trans <| (evLoop_keep (body := evC T (env k) k bailiffref02_number.u2.c) (keep := [0, 6, 7]) (ρ := (frameL [(0, .str x0), (6, .int .i64 x1), (7, .int .i64 x2)])) (ρ' := (frameL [(0, .str x0), (6, .int .i64 x1), (7, .int .i64 x2)])) (by kernel_rfl) k K).trans (bailiffref02_number.u3.okl k K k x0 x1 x2)
theorem bailiffref02_number.u4.ok {α : Type} (k : Nat) (x0 : List UInt8) (x1 : Int) (x2 : Int) (K : Ex → Frame → M α) :
    evC T (env k) k bailiffref02_number.u4.c (frameL [(0, .str x0), (6, .int .i64 x1), (7, .int .i64 x2)]) K =
      bailiffref02_number.u4.f k x0 x1 x2 (fun y0 y1 => K .normal (frameL [(6, .int .i64 y0), (7, .int .i64 y1)])) :=
  (evC_block.trans (bailiffref02_number.u3.ok k x0 x1 x2 (blockK 0 K))).trans (by kernel_rfl)
theorem bailiffref02_number.u5.ok {α : Type} (k : Nat) (x0 : Int) (x1 : Int) (K : Ex → Frame → M α) :
    evC T (env k) k bailiffref02_number.u5.c (frameL [(6, .int .i64 x0), (7, .int .i64 x1)]) K =
      bailiffref02_number.u5.f k x0 x1 (fun y0 y1 => K .ret (frameL [(4, .int .i64 y0), (5, .int .i64 y1)])) := by kernel_rfl
theorem bailiffref02_number.u6.ok {α : Type} (k : Nat) (x0 : List UInt8) (x1 : Int) (x2 : Int) (K : Ex → Frame → M α) :
    evC T (env k) k bailiffref02_number.u6.c (frameL [(0, .str x0), (6, .int .i64 x1), (7, .int .i64 x2)]) K =
      bailiffref02_number.u6.f k x0 x1 x2 (fun y0 y1 => K .ret (frameL [(4, .int .i64 y0), (5, .int .i64 y1)])) :=
  by
    have h := bailiffref02_number.u4.ok k x0 x1 x2 (seqK (fun ρ => evC T (env k) k bailiffref02_number.u5.c ρ K) K)
    simp only [seqK_normal, seqK_exit, seqK_ret, seqK_pan, bailiffref02_number.u5.ok] at h
    exact evC_seq_of h
theorem bailiffref02_number.u7.ok {α : Type} (k : Nat) (x0 : List UInt8) (x1 : Int) (K : Ex → Frame → M α) :
    evC T (env k) k bailiffref02_number.u7.c (frameL [(0, .str x0), (1, .int .i64 x1)]) K =
      bailiffref02_number.u7.f k x0 x1 (fun y0 y1 => K .ret (frameL [(4, .int .i64 y0), (5, .int .i64 y1)])) :=
  (bailiffref02_number.u1.ok k x0 x1 bailiffref02_number.u6.c K).trans
    (congrArg (fun z => bailiffref02_number.u1.f k x0 x1 z) (funext fun y0 => (funext fun y1 => (funext fun y2 => bailiffref02_number.u6.ok k y0 y1 y2 K))))
theorem bailiffref02_number.ok {α : Type} (k : Nat) (x0 : List UInt8) (x1 : Int) (κ : Res → M α) :
    evF T (env k) k bailiffref02_number.c bailiffref02_number.res [.str x0, .int .i64 x1] κ = bailiffref02_number.f (k + 1) x0 x1 (fun o0 o1 => κ (.ret (.tuple [.int .i64 o0, .int .i64 o1]))) :=
  (bailiffref02_number.u7.ok k x0 x1 (retK T bailiffref02_number.res κ)).trans (by kernel_rfl)
theorem bailiffref02_number.code : bailiffref02_number.c.code = bodyOf Tryd.f27 := by kernel_rfl

noncomputable def bailiffref02_one.c : IC := bailiffref02_one.u1.c
noncomputable def bailiffref02_one.res : List ResultVar := [(.cell 4 35), (.tmp 5)]
theorem bailiffref02_one.u1.ok {α : Type} (k : Nat) (x0 : List UInt8) (x1 : Int) (K : Ex → Frame → M α) :
    evC T (env k) k bailiffref02_one.u1.c (frameL [(0, .str x0), (1, .int .i64 x1)]) K =
      bailiffref02_one.u1.f k x0 x1 (fun y0 y1 => K .ret (frameL [(4, .ptr (some y0)), (5, .int .i64 y1)])) := by kernel_rfl
theorem bailiffref02_one.ok {α : Type} (k : Nat) (x0 : List UInt8) (x1 : Int) (κ : Res → M α) :
    evF T (env k) k bailiffref02_one.c bailiffref02_one.res [.str x0, .int .i64 x1] κ = bailiffref02_one.f (k + 1) x0 x1 (fun o0 o1 o2 o3 o4 => κ (.ret (.tuple [.agg [.int .i64 o0, .int .i64 o1, .str o2, .int .i64 o3], .int .i64 o4]))) :=
  (bailiffref02_one.u1.ok k x0 x1 (retK T bailiffref02_one.res κ)).trans (by kernel_rfl)
theorem bailiffref02_one.code : bailiffref02_one.c.code = bodyOf Tryd.f17 := by kernel_rfl

noncomputable def bailiffref02_All.c : IC := bailiffref02_All.u27.c
noncomputable def bailiffref02_All.res : List ResultVar := [(.tmp 2), (.tmp 3), (.tmp 4)]
theorem bailiffref02_All.u1.ok {α : Type} (k : Nat) (x0 : List UInt8) (R : IC) (K : Ex → Frame → M α) :
    evC T (env k) k (bailiffref02_All.u1.c R) (frameL [(0, .str x0)]) K =
      bailiffref02_All.u1.f k x0 (fun y0 y1 y2 => evC T (env k) k R (frameL [(0, .str y0), (5, .slice y1), (6, .int .i64 y2)]) K) (fun y0 y1 y2 => K .ret (frameL [(2, .slice y0), (3, .int .i64 y1), (4, .int .i64 y2)])) := by kernel_rfl
theorem bailiffref02_All.u2.ok {α : Type} (k : Nat) (x0 : List UInt8) (x1 : Sl) (x2 : Int) (R : IC) (K : Ex → Frame → M α) :
    evC T (env k) k (bailiffref02_All.u2.c R) (frameL [(0, .str x0), (5, .slice x1), (6, .int .i64 x2)]) K =
      bailiffref02_All.u2.f k x0 x1 x2 (fun y0 y1 y2 => evC T (env k) k R (frameL [(0, .str y0), (5, .slice y1), (6, .int .i64 y2)]) K) (fun y0 y1 => K (.exit 0) (frameL [(0, .str y0), (5, .slice y1)])) := by kernel_rfl
theorem bailiffref02_All.u3.ok {α : Type} (k : Nat) (x0 : List UInt8) (x1 : Sl) (x2 : Int) (R : IC) (K : Ex → Frame → M α) :
    evC T (env k) k (bailiffref02_All.u3.c R) (frameL [(0, .str x0), (5, .slice x1), (6, .int .i64 x2)]) K =
      bailiffref02_All.u3.f k x0 x1 x2 (fun y0 y1 y2 y3 => evC T (env k) k R (frameL [(0, .str y0), (5, .slice y1), (6, .int .i64 y2), (18, .int .u8 y3)]) K) := by kernel_rfl
theorem bailiffref02_All.u4.ok {α : Type} (k : Nat) (x0 : List UInt8) (x1 : Sl) (x2 : Int) (x3 : Int) (R : IC) (K : Ex → Frame → M α) :
    evC T (env k) k (bailiffref02_All.u4.c R) (frameL [(0, .str x0), (5, .slice x1), (6, .int .i64 x2), (18, .int .u8 x3)]) K =
      bailiffref02_All.u4.f k x0 x1 x2 x3 (fun y0 y1 y2 y3 y4 => evC T (env k) k R (frameL [(0, .str y0), (5, .slice y1), (6, .int .i64 y2), (18, .int .u8 y3), (19, .bool y4)]) K) := by kernel_rfl
theorem bailiffref02_All.u5.ok {α : Type} (k : Nat) (x0 : List UInt8) (x1 : Sl) (x2 : Int) (x3 : Int) (x4 : Bool) (K : Ex → Frame → M α) :
    evC T (env k) k bailiffref02_All.u5.c (frameL [(0, .str x0), (5, .slice x1), (6, .int .i64 x2), (18, .int .u8 x3), (19, .bool x4)]) K =
      bailiffref02_All.u5.f k x0 x1 x2 x3 x4 (fun y0 y1 y2 => K (.exit 1) (frameL [(0, .str y0), (5, .slice y1), (6, .int .i64 y2)])) := by kernel_rfl
theorem bailiffref02_All.u6.ok {α : Type} (k : Nat) (x0 : List UInt8) (x1 : Sl) (x2 : Int) (x3 : Int) (x4 : Bool) (R : IC) (K : Ex → Frame → M α) :
    evC T (env k) k (bailiffref02_All.u6.c R) (frameL [(0, .str x0), (5, .slice x1), (6, .int .i64 x2), (18, .int .u8 x3), (19, .bool x4)]) K =
      bailiffref02_All.u6.f k x0 x1 x2 x3 x4 (fun y0 y1 y2 y3 => evC T (env k) k R (frameL [(0, .str y0), (5, .slice y1), (6, .int .i64 y2), (24, .bool y3)]) K) := by kernel_rfl
theorem bailiffref02_All.u7.ok {α : Type} (k : Nat) (x0 : List UInt8) (x1 : Sl) (x2 : Int) (K : Ex → Frame → M α) :
    evC T (env k) k bailiffref02_All.u7.c (frameL [(0, .str x0), (5, .slice x1), (6, .int .i64 x2)]) K =
      bailiffref02_All.u7.f k x0 x1 x2 (fun y0 y1 y2 => K .normal (frameL [(0, .str y0), (5, .slice y1), (6, .int .i64 y2)])) (fun y0 y1 y2 => K (.exit 3) (frameL [(0, .str y0), (5, .slice y1), (6, .int .i64 y2)])) := by kernel_rfl
theorem bailiffref02_All.u8.ls {α : Type} (k : Nat) (kx3 : List UInt8 → Sl → Int → M α) (j : Nat) (x0 : List UInt8) (x1 : Sl) (x2 : Int) : bailiffref02_All.u8.l k kx3 (j + 1) x0 x1 x2 =
  bailiffref02_All.u7.f k x0 x1 x2 (fun y0 y1 y2 => bailiffref02_All.u8.l k kx3 j y0 y1 y2) kx3 := rfl
theorem bailiffref02_All.u8.okl {α : Type} (k : Nat) (K : Ex → Frame → M α) : ∀ (j : Nat) (x0 : List UInt8) (x1 : Sl) (x2 : Int),
    evLoop (evC T (env k) k bailiffref02_All.u7.c) [0, 5, 6] j (frameL [(0, .str x0), (5, .slice x1), (6, .int .i64 x2)]) K = bailiffref02_All.u8.l k (fun y0 y1 y2 => K (.exit 3) (frameL [(0, .str y0), (5, .slice y1), (6, .int .i64 y2)])) j x0 x1 x2
  | 0, _, _, _ => rfl
  | j + 1, x0, x1, x2 => by
      have h := bailiffref02_All.u7.ok k x0 x1 x2 (seqK (fun ρ => evLoop (evC T (env k) k bailiffref02_All.u7.c) [0, 5, 6] j ρ K) K)
      simp only [seqK_exit, seqK_ret, seqK_pan, seqK_normal, bailiffref02_All.u8.okl k K j] at h
      exact (evLoop_step (by kernel_rfl) h).trans (bailiffref02_All.u8.ls k (fun y0 y1 y2 => K (.exit 3) (frameL [(0, .str y0), (5, .slice y1), (6, .int .i64 y2)])) j x0 x1 x2).symm
theorem bailiffref02_All.u8.ok {α : Type} (k : Nat) (x0 : List UInt8) (x1 : Sl) (x2 : Int) (x3 : Bool) (K : Ex → Frame → M α) :
    evC T (env k) k bailiffref02_All.u8.c (frameL [(0, .str x0), (5, .slice x1), (6, .int .i64 x2), (24, .bool x3)]) K =
      bailiffref02_All.u8.f k x0 x1 x2 x3 (fun y0 y1 y2 => K (.exit 3) (frameL [(0, .str y0), (5, .slice y1), (6, .int .i64 y2)])) :=
  evC_loop.trans <| (evLoop_keep (body := evC T (env k) k bailiffref02_All.u7.c) (keep := [0, 5, 6]) (ρ := (frameL [(0, .str x0), (5, .slice x1), (6, .int .i64 x2), (24, .bool x3)])) (ρ' := (frameL [(0, .str x0), (5, .slice x1), (6, .int .i64 x2)])) (by kernel_rfl) k K).trans (bailiffref02_All.u8.okl k K k x0 x1 x2)
theorem bailiffref02_All.u9.ok {α : Type} (k : Nat) (x0 : List UInt8) (x1 : Sl) (x2 : Int) (x3 : Bool) (K : Ex → Frame → M α) :
    evC T (env k) k bailiffref02_All.u9.c (frameL [(0, .str x0), (5, .slice x1), (6, .int .i64 x2), (24, .bool x3)]) K =
      bailiffref02_All.u9.f k x0 x1 x2 x3 (fun y0 y1 y2 => K .normal (frameL [(0, .str y0), (5, .slice y1), (6, .int .i64 y2)])) :=
  (evC_block.trans (bailiffref02_All.u8.ok k x0 x1 x2 x3 (blockK 3 K))).trans (by kernel_rfl)
theorem bailiffref02_All.u10.ok {α : Type} (k : Nat) (x0 : List UInt8) (x1 : Sl) (x2 : Int) (K : Ex → Frame → M α) :
    evC T (env k) k bailiffref02_All.u10.c (frameL [(0, .str x0), (5, .slice x1), (6, .int .i64 x2)]) K =
      bailiffref02_All.u10.f k x0 x1 x2 (fun y0 y1 y2 => K (.exit 1) (frameL [(0, .str y0), (5, .slice y1), (6, .int .i64 y2)])) := by kernel_rfl
theorem bailiffref02_All.u11.ok {α : Type} (k : Nat) (x0 : List UInt8) (x1 : Sl) (x2 : Int) (x3 : Bool) (K : Ex → Frame → M α) :
    evC T (env k) k bailiffref02_All.u11.c (frameL [(0, .str x0), (5, .slice x1), (6, .int .i64 x2), (24, .bool x3)]) K =
      bailiffref02_All.u11.f k x0 x1 x2 x3 (fun y0 y1 y2 => K (.exit 1) (frameL [(0, .str y0), (5, .slice y1), (6, .int .i64 y2)])) :=
  by
    have h := bailiffref02_All.u9.ok k x0 x1 x2 x3 (seqK (fun ρ => evC T (env k) k bailiffref02_All.u10.c ρ K) K)
    simp only [seqK_normal, seqK_exit, seqK_ret, seqK_pan, bailiffref02_All.u10.ok] at h
    exact evC_seq_of h
theorem bailiffref02_All.u12.ok {α : Type} (k : Nat) (x0 : List UInt8) (x1 : Sl) (x2 : Int) (x3 : Bool) (K : Ex → Frame → M α) :
    evC T (env k) k bailiffref02_All.u12.c (frameL [(0, .str x0), (5, .slice x1), (6, .int .i64 x2), (24, .bool x3)]) K =
      bailiffref02_All.u12.f k x0 x1 x2 x3 (fun y0 y1 y2 => K .normal (frameL [(0, .str y0), (5, .slice y1), (6, .int .i64 y2)])) := by kernel_rfl
theorem bailiffref02_All.u13.ok {α : Type} (k : Nat) (x0 : List UInt8) (x1 : Sl) (x2 : Int) (x3 : Bool) (K : Ex → Frame → M α) :
    evC T (env k) k bailiffref02_All.u13.c (frameL [(0, .str x0), (5, .slice x1), (6, .int .i64 x2), (24, .bool x3)]) K =
      bailiffref02_All.u13.f k x0 x1 x2 x3 (fun y0 y1 y2 => K .normal (frameL [(0, .str y0), (5, .slice y1), (6, .int .i64 y2)])) (fun y0 y1 y2 => K (.exit 1) (frameL [(0, .str y0), (5, .slice y1), (6, .int .i64 y2)])) :=
  by
    cases x3
    · exact bailiffref02_All.u12.ok k x0 x1 x2 false K
    · exact bailiffref02_All.u11.ok k x0 x1 x2 true K
theorem bailiffref02_All.u14.ok {α : Type} (k : Nat) (x0 : List UInt8) (x1 : Sl) (x2 : Int) (x3 : Int) (x4 : Bool) (K : Ex → Frame → M α) :
    evC T (env k) k bailiffref02_All.u14.c (frameL [(0, .str x0), (5, .slice x1), (6, .int .i64 x2), (18, .int .u8 x3), (19, .bool x4)]) K =
      bailiffref02_All.u14.f k x0 x1 x2 x3 x4 (fun y0 y1 y2 => K .normal (frameL [(0, .str y0), (5, .slice y1), (6, .int .i64 y2)])) (fun y0 y1 y2 => K (.exit 1) (frameL [(0, .str y0), (5, .slice y1), (6, .int .i64 y2)])) :=
  (bailiffref02_All.u6.ok k x0 x1 x2 x3 x4 bailiffref02_All.u13.c K).trans
    (congrArg (fun z => bailiffref02_All.u6.f k x0 x1 x2 x3 x4 z) (funext fun y0 => (funext fun y1 => (funext fun y2 => (funext fun y3 => bailiffref02_All.u13.ok k y0 y1 y2 y3 K)))))
theorem bailiffref02_All.u15.ok {α : Type} (k : Nat) (x0 : List UInt8) (x1 : Sl) (x2 : Int) (x3 : Int) (x4 : Bool) (K : Ex → Frame → M α) :
    evC T (env k) k bailiffref02_All.u15.c (frameL [(0, .str x0), (5, .slice x1), (6, .int .i64 x2), (18, .int .u8 x3), (19, .bool x4)]) K =
      bailiffref02_All.u15.f k x0 x1 x2 x3 x4 (fun y0 y1 y2 => K .normal (frameL [(0, .str y0), (5, .slice y1), (6, .int .i64 y2)])) (fun y0 y1 y2 => K (.exit 1) (frameL [(0, .str y0), (5, .slice y1), (6, .int .i64 y2)])) :=
  by
    cases x4
    · exact bailiffref02_All.u14.ok k x0 x1 x2 x3 false K
    · exact bailiffref02_All.u5.ok k x0 x1 x2 x3 true K
theorem bailiffref02_All.u16.ok {α : Type} (k : Nat) (x0 : List UInt8) (x1 : Sl) (x2 : Int) (x3 : Int) (K : Ex → Frame → M α) :
    evC T (env k) k bailiffref02_All.u16.c (frameL [(0, .str x0), (5, .slice x1), (6, .int .i64 x2), (18, .int .u8 x3)]) K =
      bailiffref02_All.u16.f k x0 x1 x2 x3 (fun y0 y1 y2 => K .normal (frameL [(0, .str y0), (5, .slice y1), (6, .int .i64 y2)])) (fun y0 y1 y2 => K (.exit 1) (frameL [(0, .str y0), (5, .slice y1), (6, .int .i64 y2)])) :=
  (bailiffref02_All.u4.ok k x0 x1 x2 x3 bailiffref02_All.u15.c K).trans
    (congrArg (fun z => bailiffref02_All.u4.f k x0 x1 x2 x3 z) (funext fun y0 => (funext fun y1 => (funext fun y2 => (funext fun y3 => (funext fun y4 => bailiffref02_All.u15.ok k y0 y1 y2 y3 y4 K))))))
theorem bailiffref02_All.u17.ok {α : Type} (k : Nat) (x0 : List UInt8) (x1 : Sl) (x2 : Int) (x3 : Int) (K : Ex → Frame → M α) :
    evC T (env k) k bailiffref02_All.u17.c (frameL [(0, .str x0), (5, .slice x1), (6, .int .i64 x2), (18, .int .u8 x3)]) K =
      bailiffref02_All.u17.f k x0 x1 x2 x3 (fun y0 y1 y2 => K .normal (frameL [(0, .str y0), (5, .slice y1), (6, .int .i64 y2)])) (fun y0 y1 y2 => K (.exit 1) (frameL [(0, .str y0), (5, .slice y1), (6, .int .i64 y2)])) :=
  (evC_block.trans (bailiffref02_All.u16.ok k x0 x1 x2 x3 (blockK 2 K))).trans (by kernel_rfl)
theorem bailiffref02_All.u18.ok {α : Type} (k : Nat) (x0 : List UInt8) (x1 : Sl) (x2 : Int) (K : Ex → Frame → M α) :
    evC T (env k) k bailiffref02_All.u18.c (frameL [(0, .str x0), (5, .slice x1), (6, .int .i64 x2)]) K =
      bailiffref02_All.u18.f k x0 x1 x2 (fun y0 y1 y2 => K .normal (frameL [(0, .str y0), (5, .slice y1), (6, .int .i64 y2)])) (fun y0 y1 y2 => K (.exit 1) (frameL [(0, .str y0), (5, .slice y1), (6, .int .i64 y2)])) :=
  (bailiffref02_All.u3.ok k x0 x1 x2 bailiffref02_All.u17.c K).trans
    (congrArg (fun z => bailiffref02_All.u3.f k x0 x1 x2 z) (funext fun y0 => (funext fun y1 => (funext fun y2 => (funext fun y3 => bailiffref02_All.u17.ok k y0 y1 y2 y3 K)))))
theorem bailiffref02_All.u19.ok {α : Type} (k : Nat) (x0 : List UInt8) (x1 : Sl) (x2 : Int) (K : Ex → Frame → M α) :
    evC T (env k) k bailiffref02_All.u19.c (frameL [(0, .str x0), (5, .slice x1), (6, .int .i64 x2)]) K =
      bailiffref02_All.u19.f k x0 x1 x2 (fun y0 y1 y2 => K .normal (frameL [(0, .str y0), (5, .slice y1), (6, .int .i64 y2)])) (fun y0 y1 y2 => K .ret (frameL [(2, .slice y0), (3, .int .i64 y1), (4, .int .i64 y2)])) := by kernel_rfl
theorem bailiffref02_All.u20.ok {α : Type} (k : Nat) (x0 : List UInt8) (x1 : Sl) (x2 : Int) (K : Ex → Frame → M α) :
    evC T (env k) k bailiffref02_All.u20.c (frameL [(0, .str x0), (5, .slice x1), (6, .int .i64 x2)]) K =
      bailiffref02_All.u20.f k x0 x1 x2 (fun y0 y1 y2 => K .normal (frameL [(0, .str y0), (5, .slice y1), (6, .int .i64 y2)])) (fun y0 y1 y2 => K .ret (frameL [(2, .slice y0), (3, .int .i64 y1), (4, .int .i64 y2)])) (fun y0 y1 y2 => K (.exit 1) (frameL [(0, .str y0), (5, .slice y1), (6, .int .i64 y2)])) :=
  by
    have h := bailiffref02_All.u18.ok k x0 x1 x2 (seqK (fun ρ => evC T (env k) k bailiffref02_All.u19.c ρ K) K)
    simp only [seqK_normal, seqK_exit, seqK_ret, seqK_pan, bailiffref02_All.u19.ok] at h
    exact evC_seq_of h
theorem bailiffref02_All.u21.ok {α : Type} (k : Nat) (x0 : List UInt8) (x1 : Sl) (x2 : Int) (K : Ex → Frame → M α) :
    evC T (env k) k bailiffref02_All.u21.c (frameL [(0, .str x0), (5, .slice x1), (6, .int .i64 x2)]) K =
      bailiffref02_All.u21.f k x0 x1 x2 (fun y0 y1 y2 => K .normal (frameL [(0, .str y0), (5, .slice y1), (6, .int .i64 y2)])) (fun y0 y1 y2 => K .ret (frameL [(2, .slice y0), (3, .int .i64 y1), (4, .int .i64 y2)])) :=
  (evC_block.trans (bailiffref02_All.u20.ok k x0 x1 x2 (blockK 1 K))).trans (by kernel_rfl)
theorem bailiffref02_All.u22.ok {α : Type} (k : Nat) (x0 : List UInt8) (x1 : Sl) (x2 : Int) (K : Ex → Frame → M α) :
    evC T (env k) k bailiffref02_All.u22.c (frameL [(0, .str x0), (5, .slice x1), (6, .int .i64 x2)]) K =
      bailiffref02_All.u22.f k x0 x1 x2 (fun y0 y1 y2 => K .normal (frameL [(0, .str y0), (5, .slice y1), (6, .int .i64 y2)])) (fun y0 y1 y2 => K .ret (frameL [(2, .slice y0), (3, .int .i64 y1), (4, .int .i64 y2)])) (fun y0 y1 => K (.exit 0) (frameL [(0, .str y0), (5, .slice y1)])) :=
  (bailiffref02_All.u2.ok k x0 x1 x2 bailiffref02_All.u21.c K).trans
    (congrArg (fun z => bailiffref02_All.u2.f k x0 x1 x2 z (fun y0 y1 => K (.exit 0) (frameL [(0, .str y0), (5, .slice y1)]))) (funext fun y0 => (funext fun y1 => (funext fun y2 => bailiffref02_All.u21.ok k y0 y1 y2 K))))
theorem bailiffref02_All.u23.ls {α : Type} (k : Nat) (kr : Sl → Int → Int → M α) (kx0 : List UInt8 → Sl → M α) (j : Nat) (x0 : List UInt8) (x1 : Sl) (x2 : Int) : bailiffref02_All.u23.l k kr kx0 (j + 1) x0 x1 x2 =
  bailiffref02_All.u22.f k x0 x1 x2 (fun y0 y1 y2 => bailiffref02_All.u23.l k kr kx0 j y0 y1 y2) kr kx0 := rfl
theorem bailiffref02_All.u23.okl {α : Type} (k : Nat) (K : Ex → Frame → M α) : ∀ (j : Nat) (x0 : List UInt8) (x1 : Sl) (x2 : Int),
    evLoop (evC T (env k) k bailiffref02_All.u22.c) [0, 5, 6] j (frameL [(0, .str x0), (5, .slice x1), (6, .int .i64 x2)]) K = bailiffref02_All.u23.l k (fun y0 y1 y2 => K .ret (frameL [(2, .slice y0), (3, .int .i64 y1), (4, .int .i64 y2)])) (fun y0 y1 => K (.exit 0) (frameL [(0, .str y0), (5, .slice y1)])) j x0 x1 x2
  | 0, _, _, _ => rfl
  | j + 1, x0, x1, x2 => by
      have h := bailiffref02_All.u22.ok k x0 x1 x2 (seqK (fun ρ => evLoop (evC T (env k) k bailiffref02_All.u22.c) [0, 5, 6] j ρ K) K)
      simp only [seqK_exit, seqK_ret, seqK_pan, seqK_normal, bailiffref02_All.u23.okl k K j] at h
      exact (evLoop_step (by kernel_rfl) h).trans (bailiffref02_All.u23.ls k (fun y0 y1 y2 => K .ret (frameL [(2, .slice y0), (3, .int .i64 y1), (4, .int .i64 y2)])) (fun y0 y1 => K (.exit 0) (frameL [(0, .str y0), (5, .slice y1)])) j x0 x1 x2).symm
theorem bailiffref02_All.u23.ok {α : Type} (k : Nat) (x0 : List UInt8) (x1 : Sl) (x2 : Int) (K : Ex → Frame → M α) :
    evC T (env k) k bailiffref02_All.u23.c (frameL [(0, .str x0), (5, .slice x1), (6, .int .i64 x2)]) K =
      bailiffref02_All.u23.f k x0 x1 x2 (fun y0 y1 y2 => K .ret (frameL [(2, .slice y0), (3, .int .i64 y1), (4, .int .i64 y2)])) (fun y0 y1 => K (.exit 0) (frameL [(0, .str y0), (5, .slice y1)])) :=
  evC_loop.trans <| (evLoop_keep (body := evC T (env k) k bailiffref02_All.u22.c) (keep := [0, 5, 6]) (ρ := (frameL [(0, .str x0), (5, .slice x1), (6, .int .i64 x2)])) (ρ' := (frameL [(0, .str x0), (5, .slice x1), (6, .int .i64 x2)])) (by kernel_rfl) k K).trans (bailiffref02_All.u23.okl k K k x0 x1 x2)
theorem bailiffref02_All.u24.ok {α : Type} (k : Nat) (x0 : List UInt8) (x1 : Sl) (x2 : Int) (K : Ex → Frame → M α) :
    evC T (env k) k bailiffref02_All.u24.c (frameL [(0, .str x0), (5, .slice x1), (6, .int .i64 x2)]) K =
      bailiffref02_All.u24.f k x0 x1 x2 (fun y0 y1 => K .normal (frameL [(0, .str y0), (5, .slice y1)])) (fun y0 y1 y2 => K .ret (frameL [(2, .slice y0), (3, .int .i64 y1), (4, .int .i64 y2)])) :=
  (evC_block.trans (bailiffref02_All.u23.ok k x0 x1 x2 (blockK 0 K))).trans (by kernel_rfl)
theorem bailiffref02_All.u25.ok {α : Type} (k : Nat) (x0 : List UInt8) (x1 : Sl) (K : Ex → Frame → M α) :
    evC T (env k) k bailiffref02_All.u25.c (frameL [(0, .str x0), (5, .slice x1)]) K =
      bailiffref02_All.u25.f k x0 x1 (fun y0 y1 y2 => K .ret (frameL [(2, .slice y0), (3, .int .i64 y1), (4, .int .i64 y2)])) := by kernel_rfl
theorem bailiffref02_All.u26.ok {α : Type} (k : Nat) (x0 : List UInt8) (x1 : Sl) (x2 : Int) (K : Ex → Frame → M α) :
    evC T (env k) k bailiffref02_All.u26.c (frameL [(0, .str x0), (5, .slice x1), (6, .int .i64 x2)]) K =
      bailiffref02_All.u26.f k x0 x1 x2 (fun y0 y1 y2 => K .ret (frameL [(2, .slice y0), (3, .int .i64 y1), (4, .int .i64 y2)])) :=
  by
    have h := bailiffref02_All.u24.ok k x0 x1 x2 (seqK (fun ρ => evC T (env k) k bailiffref02_All.u25.c ρ K) K)
    simp only [seqK_normal, seqK_exit, seqK_ret, seqK_pan, bailiffref02_All.u25.ok] at h
    exact evC_seq_of h
theorem bailiffref02_All.u27.ok {α : Type} (k : Nat) (x0 : List UInt8) (K : Ex → Frame → M α) :
    evC T (env k) k bailiffref02_All.u27.c (frameL [(0, .str x0)]) K =
      bailiffref02_All.u27.f k x0 (fun y0 y1 y2 => K .ret (frameL [(2, .slice y0), (3, .int .i64 y1), (4, .int .i64 y2)])) :=
  (bailiffref02_All.u1.ok k x0 bailiffref02_All.u26.c K).trans
    (congrArg (fun z => bailiffref02_All.u1.f k x0 z (fun y0 y1 y2 => K .ret (frameL [(2, .slice y0), (3, .int .i64 y1), (4, .int .i64 y2)]))) (funext fun y0 => (funext fun y1 => (funext fun y2 => bailiffref02_All.u26.ok k y0 y1 y2 K))))
theorem bailiffref02_All.ok {α : Type} (k : Nat) (x0 : List UInt8) (κ : Res → M α) :
    evF T (env k) k bailiffref02_All.c bailiffref02_All.res [.str x0] κ = bailiffref02_All.f (k + 1) x0 (fun o0 o1 o2 => κ (.ret (.tuple [.slice o0, .int .i64 o1, .int .i64 o2]))) :=
  (bailiffref02_All.u27.ok k x0 (retK T bailiffref02_All.res κ)).trans (by kernel_rfl)
theorem bailiffref02_All.code : bailiffref02_All.c.code = bodyOf Tryd.f12 := by kernel_rfl

noncomputable def bailifflaw02_same.c : IC := bailifflaw02_same.u9.c
noncomputable def bailifflaw02_same.res : List ResultVar := [(.tmp 6)]
theorem bailifflaw02_same.u1.ok {α : Type} (k : Nat) (x0 : Sl) (x1 : Sl) (x2 : Int) (R : IC) (K : Ex → Frame → M α) :
    evC T (env k) k (bailifflaw02_same.u1.c R) (frameL [(0, .slice x0), (1, .slice x1), (2, .int .i64 x2)]) K =
      bailifflaw02_same.u1.f k x0 x1 x2 (fun y0 y1 y2 => evC T (env k) k R (frameL [(0, .slice y0), (1, .slice y1), (2, .int .i64 y2)]) K) (fun y0 => K .ret (frameL [(6, .bool y0)])) := by kernel_rfl
theorem bailifflaw02_same.u2.ok {α : Type} (k : Nat) (x0 : Sl) (x1 : Sl) (x2 : Int) (R : IC) (K : Ex → Frame → M α) :
    evC T (env k) k (bailifflaw02_same.u2.c R) (frameL [(0, .slice x0), (1, .slice x1), (2, .int .i64 x2)]) K =
      bailifflaw02_same.u2.f k x0 x1 x2 (fun y0 y1 y2 y3 => evC T (env k) k R (frameL [(0, .slice y0), (1, .slice y1), (2, .int .i64 y2), (7, .int .i64 y3)]) K) := by kernel_rfl
theorem bailifflaw02_same.u3.ok {α : Type} (k : Nat) (x0 : Sl) (x1 : Sl) (x2 : Int) (x3 : Int) (K : Ex → Frame → M α) :
    evC T (env k) k bailifflaw02_same.u3.c (frameL [(0, .slice x0), (1, .slice x1), (2, .int .i64 x2), (7, .int .i64 x3)]) K =
      bailifflaw02_same.u3.f k x0 x1 x2 x3 (fun y0 y1 y2 y3 => K .normal (frameL [(0, .slice y0), (1, .slice y1), (2, .int .i64 y2), (7, .int .i64 y3)])) (fun y0 => K .ret (frameL [(6, .bool y0)])) (K (.exit 0) (frameL [])) := by kernel_rfl
theorem bailifflaw02_same.u4.ls {α : Type} (k : Nat) (kr : Bool → M α) (kx0 : M α) (j : Nat) (x0 : Sl) (x1 : Sl) (x2 : Int) (x3 : Int) : bailifflaw02_same.u4.l k kr kx0 (j + 1) x0 x1 x2 x3 =
  bailifflaw02_same.u3.f k x0 x1 x2 x3 (fun y0 y1 y2 y3 => bailifflaw02_same.u4.l k kr kx0 j y0 y1 y2 y3) kr kx0 := rfl
theorem bailifflaw02_same.u4.okl {α : Type} (k : Nat) (K : Ex → Frame → M α) : ∀ (j : Nat) (x0 : Sl) (x1 : Sl) (x2 : Int) (x3 : Int),
    evLoop (evC T (env k) k bailifflaw02_same.u3.c) [0, 1, 2, 7] j (frameL [(0, .slice x0), (1, .slice x1), (2, .int .i64 x2), (7, .int .i64 x3)]) K = bailifflaw02_same.u4.l k (fun y0 => K .ret (frameL [(6, .bool y0)])) (K (.exit 0) (frameL [])) j x0 x1 x2 x3
  | 0, _, _, _, _ => rfl
  | j + 1, x0, x1, x2, x3 => by
      have h := bailifflaw02_same.u3.ok k x0 x1 x2 x3 (seqK (fun ρ => evLoop (evC T (env k) k bailifflaw02_same.u3.c) [0, 1, 2, 7] j ρ K) K)
      simp only [seqK_exit, seqK_ret, seqK_pan, seqK_normal, bailifflaw02_same.u4.okl k K j] at h
      exact (evLoop_step (by kernel_rfl) h).trans (bailifflaw02_same.u4.ls k (fun y0 => K .ret (frameL [(6, .bool y0)])) (K (.exit 0) (frameL [])) j x0 x1 x2 x3).symm
theorem bailifflaw02_same.u4.ok {α : Type} (k : Nat) (x0 : Sl) (x1 : Sl) (x2 : Int) (x3 : Int) (K : Ex → Frame → M α) :
    evC T (env k) k bailifflaw02_same.u4.c (frameL [(0, .slice x0), (1, .slice x1), (2, .int .i64 x2), (7, .int .i64 x3)]) K =
      bailifflaw02_same.u4.f k x0 x1 x2 x3 (fun y0 => K .ret (frameL [(6, .bool y0)])) (K (.exit 0) (frameL [])) :=
  evC_loop.trans <| (evLoop_keep (body := evC T (env k) k bailifflaw02_same.u3.c) (keep := [0, 1, 2, 7]) (ρ := (frameL [(0, .slice x0), (1, .slice x1), (2, .int .i64 x2), (7, .int .i64 x3)])) (ρ' := (frameL [(0, .slice x0), (1, .slice x1), (2, .int .i64 x2), (7, .int .i64 x3)])) (by kernel_rfl) k K).trans (bailifflaw02_same.u4.okl k K k x0 x1 x2 x3)
theorem bailifflaw02_same.u5.ok {α : Type} (k : Nat) (x0 : Sl) (x1 : Sl) (x2 : Int) (x3 : Int) (K : Ex → Frame → M α) :
    evC T (env k) k bailifflaw02_same.u5.c (frameL [(0, .slice x0), (1, .slice x1), (2, .int .i64 x2), (7, .int .i64 x3)]) K =
      bailifflaw02_same.u5.f k x0 x1 x2 x3 (K .normal (frameL [])) (fun y0 => K .ret (frameL [(6, .bool y0)])) :=
  (evC_block.trans (bailifflaw02_same.u4.ok k x0 x1 x2 x3 (blockK 0 K))).trans (by kernel_rfl)
theorem bailifflaw02_same.u6.ok {α : Type} (k : Nat) (x0 : Sl) (x1 : Sl) (x2 : Int) (K : Ex → Frame → M α) :
    evC T (env k) k bailifflaw02_same.u6.c (frameL [(0, .slice x0), (1, .slice x1), (2, .int .i64 x2)]) K =
      bailifflaw02_same.u6.f k x0 x1 x2 (K .normal (frameL [])) (fun y0 => K .ret (frameL [(6, .bool y0)])) :=
  (bailifflaw02_same.u2.ok k x0 x1 x2 bailifflaw02_same.u5.c K).trans
    (congrArg (fun z => bailifflaw02_same.u2.f k x0 x1 x2 z) (funext fun y0 => (funext fun y1 => (funext fun y2 => (funext fun y3 => bailifflaw02_same.u5.ok k y0 y1 y2 y3 K)))))
theorem bailifflaw02_same.u7.ok {α : Type} (k : Nat) (K : Ex → Frame → M α) :
    evC T (env k) k bailifflaw02_same.u7.c (frameL []) K =
      bailifflaw02_same.u7.f k (fun y0 => K .ret (frameL [(6, .bool y0)])) := by kernel_rfl
theorem bailifflaw02_same.u8.ok {α : Type} (k : Nat) (x0 : Sl) (x1 : Sl) (x2 : Int) (K : Ex → Frame → M α) :
    evC T (env k) k bailifflaw02_same.u8.c (frameL [(0, .slice x0), (1, .slice x1), (2, .int .i64 x2)]) K =
      bailifflaw02_same.u8.f k x0 x1 x2 (fun y0 => K .ret (frameL [(6, .bool y0)])) :=
  by
    have h := bailifflaw02_same.u6.ok k x0 x1 x2 (seqK (fun ρ => evC T (env k) k bailifflaw02_same.u7.c ρ K) K)
    simp only [seqK_normal, seqK_exit, seqK_ret, seqK_pan, bailifflaw02_same.u7.ok] at h
    exact evC_seq_of h
theorem bailifflaw02_same.u9.ok {α : Type} (k : Nat) (x0 : Sl) (x1 : Sl) (x2 : Int) (K : Ex → Frame → M α) :
    evC T (env k) k bailifflaw02_same.u9.c (frameL [(0, .slice x0), (1, .slice x1), (2, .int .i64 x2)]) K =
      bailifflaw02_same.u9.f k x0 x1 x2 (fun y0 => K .ret (frameL [(6, .bool y0)])) :=
  (bailifflaw02_same.u1.ok k x0 x1 x2 bailifflaw02_same.u8.c K).trans
    (congrArg (fun z => bailifflaw02_same.u1.f k x0 x1 x2 z (fun y0 => K .ret (frameL [(6, .bool y0)]))) (funext fun y0 => (funext fun y1 => (funext fun y2 => bailifflaw02_same.u8.ok k y0 y1 y2 K))))
theorem bailifflaw02_same.ok {α : Type} (k : Nat) (x0 : Sl) (x1 : Sl) (x2 : Int) (κ : Res → M α) :
    evF T (env k) k bailifflaw02_same.c bailifflaw02_same.res [.slice x0, .slice x1, .int .i64 x2] κ = bailifflaw02_same.f (k + 1) x0 x1 x2 (fun o0 => κ (.ret (.bool o0))) :=
  (bailifflaw02_same.u9.ok k x0 x1 x2 (retK T bailifflaw02_same.res κ)).trans (by kernel_rfl)
theorem bailifflaw02_same.code : bailifflaw02_same.c.code = bodyOf Tryd.f14 := by kernel_rfl

noncomputable def bailifflaw02_ScanAll.c : IC := bailifflaw02_ScanAll.u9.c
noncomputable def bailifflaw02_ScanAll.res : List ResultVar := [(.tmp 2)]
theorem bailifflaw02_ScanAll.u1.ok {α : Type} (k : Nat) (x0 : List UInt8) (R : IC) (K : Ex → Frame → M α) :
    evC T (env k) k (bailifflaw02_ScanAll.u1.c R) (frameL [(0, .str x0)]) K =
      bailifflaw02_ScanAll.u1.f k x0 (fun y0 y1 y2 y3 y4 y5 y6 y7 y8 => evC T (env k) k R (frameL [(3, .bool y0), (4, .slice y1), (6, .slice y2), (8, .slice y3), (9, .int .i64 y4), (10, .int .i64 y5), (11, .int .i64 y6), (12, .int .i64 y7), (13, .bool y8)]) K) := by kernel_rfl
theorem bailifflaw02_ScanAll.u2.ok {α : Type} (k : Nat) (x0 : Bool) (x1 : Sl) (x2 : Sl) (x3 : Sl) (x4 : Int) (x5 : Int) (x6 : Int) (x7 : Int) (x8 : Bool) (R : IC) (K : Ex → Frame → M α) :
    evC T (env k) k (bailifflaw02_ScanAll.u2.c R) (frameL [(3, .bool x0), (4, .slice x1), (6, .slice x2), (8, .slice x3), (9, .int .i64 x4), (10, .int .i64 x5), (11, .int .i64 x6), (12, .int .i64 x7), (13, .bool x8)]) K =
      bailifflaw02_ScanAll.u2.f k x0 x1 x2 x3 x4 x5 x6 x7 x8 (fun y0 y1 y2 y3 y4 y5 y6 y7 y8 y9 => evC T (env k) k R (frameL [(3, .bool y0), (4, .slice y1), (6, .slice y2), (8, .slice y3), (9, .int .i64 y4), (10, .int .i64 y5), (11, .int .i64 y6), (12, .int .i64 y7), (13, .bool y8), (14, .int .i64 y9)]) K) := by kernel_rfl
theorem bailifflaw02_ScanAll.u3.ok {α : Type} (k : Nat) (x0 : Bool) (x1 : Sl) (x2 : Sl) (x3 : Sl) (x4 : Int) (x5 : Int) (x6 : Int) (x7 : Int) (x8 : Bool) (x9 : Int) (K : Ex → Frame → M α) :
    evC T (env k) k bailifflaw02_ScanAll.u3.c (frameL [(3, .bool x0), (4, .slice x1), (6, .slice x2), (8, .slice x3), (9, .int .i64 x4), (10, .int .i64 x5), (11, .int .i64 x6), (12, .int .i64 x7), (13, .bool x8), (14, .int .i64 x9)]) K =
      bailifflaw02_ScanAll.u3.f k x0 x1 x2 x3 x4 x5 x6 x7 x8 x9 (fun y0 y1 y2 y3 y4 y5 y6 y7 y8 y9 => K .normal (frameL [(3, .bool y0), (4, .slice y1), (6, .slice y2), (8, .slice y3), (9, .int .i64 y4), (10, .int .i64 y5), (11, .int .i64 y6), (12, .int .i64 y7), (13, .bool y8), (14, .int .i64 y9)])) (fun y0 y1 y2 y3 y4 y5 y6 y7 y8 => K (.exit 0) (frameL [(3, .bool y0), (4, .slice y1), (6, .slice y2), (8, .slice y3), (9, .int .i64 y4), (10, .int .i64 y5), (11, .int .i64 y6), (12, .int .i64 y7), (13, .bool y8)])) := by kernel_rfl
theorem bailifflaw02_ScanAll.u4.ls {α : Type} (k : Nat) (kx0 : Bool → Sl → Sl → Sl → Int → Int → Int → Int → Bool → M α) (j : Nat) (x0 : Bool) (x1 : Sl) (x2 : Sl) (x3 : Sl) (x4 : Int) (x5 : Int) (x6 : Int) (x7 : Int) (x8 : Bool) (x9 : Int) : bailifflaw02_ScanAll.u4.l k kx0 (j + 1) x0 x1 x2 x3 x4 x5 x6 x7 x8 x9 =
  bailifflaw02_ScanAll.u3.f k x0 x1 x2 x3 x4 x5 x6 x7 x8 x9 (fun y0 y1 y2 y3 y4 y5 y6 y7 y8 y9 => bailifflaw02_ScanAll.u4.l k kx0 j y0 y1 y2 y3 y4 y5 y6 y7 y8 y9) kx0 := rfl
theorem bailifflaw02_ScanAll.u4.okl {α : Type} (k : Nat) (K : Ex → Frame → M α) : ∀ (j : Nat) (x0 : Bool) (x1 : Sl) (x2 : Sl) (x3 : Sl) (x4 : Int) (x5 : Int) (x6 : Int) (x7 : Int) (x8 : Bool) (x9 : Int),
    evLoop (evC T (env k) k bailifflaw02_ScanAll.u3.c) [3, 4, 6, 8, 9, 10, 11, 12, 13, 14] j (frameL [(3, .bool x0), (4, .slice x1), (6, .slice x2), (8, .slice x3), (9, .int .i64 x4), (10, .int .i64 x5), (11, .int .i64 x6), (12, .int .i64 x7), (13, .bool x8), (14, .int .i64 x9)]) K = bailifflaw02_ScanAll.u4.l k (fun y0 y1 y2 y3 y4 y5 y6 y7 y8 => K (.exit 0) (frameL [(3, .bool y0), (4, .slice y1), (6, .slice y2), (8, .slice y3), (9, .int .i64 y4), (10, .int .i64 y5), (11, .int .i64 y6), (12, .int .i64 y7), (13, .bool y8)])) j x0 x1 x2 x3 x4 x5 x6 x7 x8 x9
  | 0, _, _, _, _, _, _, _, _, _, _ => rfl
  | j + 1, x0, x1, x2, x3, x4, x5, x6, x7, x8, x9 => by
      have h := bailifflaw02_ScanAll.u3.ok k x0 x1 x2 x3 x4 x5 x6 x7 x8 x9 (seqK (fun ρ => evLoop (evC T (env k) k bailifflaw02_ScanAll.u3.c) [3, 4, 6, 8, 9, 10, 11, 12, 13, 14] j ρ K) K)
      simp only [seqK_exit, seqK_ret, seqK_pan, seqK_normal, bailifflaw02_ScanAll.u4.okl k K j] at h
      exact (evLoop_step (by kernel_rfl) h).trans (bailifflaw02_ScanAll.u4.ls k (fun y0 y1 y2 y3 y4 y5 y6 y7 y8 => K (.exit 0) (frameL [(3, .bool y0), (4, .slice y1), (6, .slice y2), (8, .slice y3), (9, .int .i64 y4), (10, .int .i64 y5), (11, .int .i64 y6), (12, .int .i64 y7), (13, .bool y8)])) j x0 x1 x2 x3 x4 x5 x6 x7 x8 x9).symm
theorem bailifflaw02_ScanAll.u4.ok {α : Type} (k : Nat) (x0 : Bool) (x1 : Sl) (x2 : Sl) (x3 : Sl) (x4 : Int) (x5 : Int) (x6 : Int) (x7 : Int) (x8 : Bool) (x9 : Int) (K : Ex → Frame → M α) :
    evC T (env k) k bailifflaw02_ScanAll.u4.c (frameL [(3, .bool x0), (4, .slice x1), (6, .slice x2), (8, .slice x3), (9, .int .i64 x4), (10, .int .i64 x5), (11, .int .i64 x6), (12, .int .i64 x7), (13, .bool x8), (14, .int .i64 x9)]) K =
      bailifflaw02_ScanAll.u4.f k x0 x1 x2 x3 x4 x5 x6 x7 x8 x9 (fun y0 y1 y2 y3 y4 y5 y6 y7 y8 => K (.exit 0) (frameL [(3, .bool y0), (4, .slice y1), (6, .slice y2), (8, .slice y3), (9, .int .i64 y4), (10, .int .i64 y5), (11, .int .i64 y6), (12, .int .i64 y7), (13, .bool y8)])) :=
  evC_loop.trans <| (evLoop_keep (body := evC T (env k) k bailifflaw02_ScanAll.u3.c) (keep := [3, 4, 6, 8, 9, 10, 11, 12, 13, 14]) (ρ := (frameL [(3, .bool x0), (4, .slice x1), (6, .slice x2), (8, .slice x3), (9, .int .i64 x4), (10, .int .i64 x5), (11, .int .i64 x6), (12, .int .i64 x7), (13, .bool x8), (14, .int .i64 x9)])) (ρ' := (frameL [(3, .bool x0), (4, .slice x1), (6, .slice x2), (8, .slice x3), (9, .int .i64 x4), (10, .int .i64 x5), (11, .int .i64 x6), (12, .int .i64 x7), (13, .bool x8), (14, .int .i64 x9)])) (by kernel_rfl) k K).trans (bailifflaw02_ScanAll.u4.okl k K k x0 x1 x2 x3 x4 x5 x6 x7 x8 x9)
theorem bailifflaw02_ScanAll.u5.ok {α : Type} (k : Nat) (x0 : Bool) (x1 : Sl) (x2 : Sl) (x3 : Sl) (x4 : Int) (x5 : Int) (x6 : Int) (x7 : Int) (x8 : Bool) (x9 : Int) (K : Ex → Frame → M α) :
    evC T (env k) k bailifflaw02_ScanAll.u5.c (frameL [(3, .bool x0), (4, .slice x1), (6, .slice x2), (8, .slice x3), (9, .int .i64 x4), (10, .int .i64 x5), (11, .int .i64 x6), (12, .int .i64 x7), (13, .bool x8), (14, .int .i64 x9)]) K =
      bailifflaw02_ScanAll.u5.f k x0 x1 x2 x3 x4 x5 x6 x7 x8 x9 (fun y0 y1 y2 y3 y4 y5 y6 y7 y8 => K .normal (frameL [(3, .bool y0), (4, .slice y1), (6, .slice y2), (8, .slice y3), (9, .int .i64 y4), (10, .int .i64 y5), (11, .int .i64 y6), (12, .int .i64 y7), (13, .bool y8)])) :=
  (evC_block.trans (bailifflaw02_ScanAll.u4.ok k x0 x1 x2 x3 x4 x5 x6 x7 x8 x9 (blockK 0 K))).trans (by kernel_rfl)
theorem bailifflaw02_ScanAll.u6.ok {α : Type} (k : Nat) (x0 : Bool) (x1 : Sl) (x2 : Sl) (x3 : Sl) (x4 : Int) (x5 : Int) (x6 : Int) (x7 : Int) (x8 : Bool) (K : Ex → Frame → M α) :
    evC T (env k) k bailifflaw02_ScanAll.u6.c (frameL [(3, .bool x0), (4, .slice x1), (6, .slice x2), (8, .slice x3), (9, .int .i64 x4), (10, .int .i64 x5), (11, .int .i64 x6), (12, .int .i64 x7), (13, .bool x8)]) K =
      bailifflaw02_ScanAll.u6.f k x0 x1 x2 x3 x4 x5 x6 x7 x8 (fun y0 y1 y2 y3 y4 y5 y6 y7 y8 => K .normal (frameL [(3, .bool y0), (4, .slice y1), (6, .slice y2), (8, .slice y3), (9, .int .i64 y4), (10, .int .i64 y5), (11, .int .i64 y6), (12, .int .i64 y7), (13, .bool y8)])) :=
  (bailifflaw02_ScanAll.u2.ok k x0 x1 x2 x3 x4 x5 x6 x7 x8 bailifflaw02_ScanAll.u5.c K).trans
    (congrArg (fun z => bailifflaw02_ScanAll.u2.f k x0 x1 x2 x3 x4 x5 x6 x7 x8 z) (funext fun y0 => (funext fun y1 => (funext fun y2 => (funext fun y3 => (funext fun y4 => (funext fun y5 => (funext fun y6 => (funext fun y7 => (funext fun y8 => (funext fun y9 => bailifflaw02_ScanAll.u5.ok k y0 y1 y2 y3 y4 y5 y6 y7 y8 y9 K)))))))))))
theorem bailifflaw02_ScanAll.u7.ok {α : Type} (k : Nat) (x0 : Bool) (x1 : Sl) (x2 : Sl) (x3 : Sl) (x4 : Int) (x5 : Int) (x6 : Int) (x7 : Int) (x8 : Bool) (K : Ex → Frame → M α) :
    evC T (env k) k bailifflaw02_ScanAll.u7.c (frameL [(3, .bool x0), (4, .slice x1), (6, .slice x2), (8, .slice x3), (9, .int .i64 x4), (10, .int .i64 x5), (11, .int .i64 x6), (12, .int .i64 x7), (13, .bool x8)]) K =
      bailifflaw02_ScanAll.u7.f k x0 x1 x2 x3 x4 x5 x6 x7 x8 (fun y0 => K .ret (frameL [(2, .bool y0)])) := by kernel_rfl
theorem bailifflaw02_ScanAll.u8.ok {α : Type} (k : Nat) (x0 : Bool) (x1 : Sl) (x2 : Sl) (x3 : Sl) (x4 : Int) (x5 : Int) (x6 : Int) (x7 : Int) (x8 : Bool) (K : Ex → Frame → M α) :
    evC T (env k) k bailifflaw02_ScanAll.u8.c (frameL [(3, .bool x0), (4, .slice x1), (6, .slice x2), (8, .slice x3), (9, .int .i64 x4), (10, .int .i64 x5), (11, .int .i64 x6), (12, .int .i64 x7), (13, .bool x8)]) K =
      bailifflaw02_ScanAll.u8.f k x0 x1 x2 x3 x4 x5 x6 x7 x8 (fun y0 => K .ret (frameL [(2, .bool y0)])) :=
  by
    have h := bailifflaw02_ScanAll.u6.ok k x0 x1 x2 x3 x4 x5 x6 x7 x8 (seqK (fun ρ => evC T (env k) k bailifflaw02_ScanAll.u7.c ρ K) K)
    simp only [seqK_normal, seqK_exit, seqK_ret, seqK_pan, bailifflaw02_ScanAll.u7.ok] at h
    exact evC_seq_of h
theorem bailifflaw02_ScanAll.u9.ok {α : Type} (k : Nat) (x0 : List UInt8) (K : Ex → Frame → M α) :
    evC T (env k) k bailifflaw02_ScanAll.u9.c (frameL [(0, .str x0)]) K =
      bailifflaw02_ScanAll.u9.f k x0 (fun y0 => K .ret (frameL [(2, .bool y0)])) :=
  (bailifflaw02_ScanAll.u1.ok k x0 bailifflaw02_ScanAll.u8.c K).trans
    (congrArg (fun z => bailifflaw02_ScanAll.u1.f k x0 z) (funext fun y0 => (funext fun y1 => (funext fun y2 => (funext fun y3 => (funext fun y4 => (funext fun y5 => (funext fun y6 => (funext fun y7 => (funext fun y8 => bailifflaw02_ScanAll.u8.ok k y0 y1 y2 y3 y4 y5 y6 y7 y8 K))))))))))
theorem bailifflaw02_ScanAll.ok {α : Type} (k : Nat) (x0 : List UInt8) (κ : Res → M α) :
    evF T (env k) k bailifflaw02_ScanAll.c bailifflaw02_ScanAll.res [.str x0] κ = bailifflaw02_ScanAll.f (k + 1) x0 (fun o0 => κ (.ret (.bool o0))) :=
  (bailifflaw02_ScanAll.u9.ok k x0 (retK T bailifflaw02_ScanAll.res κ)).trans (by kernel_rfl)
theorem bailifflaw02_ScanAll.code : bailifflaw02_ScanAll.c.code = bodyOf Tryd.f3 := by kernel_rfl

noncomputable def bailifflaw02_ScanPieces.c : IC := bailifflaw02_ScanPieces.u22.c
noncomputable def bailifflaw02_ScanPieces.res : List ResultVar := [(.tmp 2)]
theorem bailifflaw02_ScanPieces.u1.ok {α : Type} (k : Nat) (x0 : List UInt8) (R : IC) (K : Ex → Frame → M α) :
    evC T (env k) k (bailifflaw02_ScanPieces.u1.c R) (frameL [(0, .str x0)]) K =
      bailifflaw02_ScanPieces.u1.f k x0 (fun y0 y1 y2 => evC T (env k) k R (frameL [(0, .str y0), (4, .slice y1), (8, .int .i64 y2)]) K) (fun y0 => K .ret (frameL [(2, .bool y0)])) := by kernel_rfl
theorem bailifflaw02_ScanPieces.u2.ok {α : Type} (k : Nat) (x0 : List UInt8) (x1 : Sl) (x2 : Int) (R : IC) (K : Ex → Frame → M α) :
    evC T (env k) k (bailifflaw02_ScanPieces.u2.c R) (frameL [(0, .str x0), (4, .slice x1), (8, .int .i64 x2)]) K =
      bailifflaw02_ScanPieces.u2.f k x0 x1 x2 (fun y0 y1 y2 y3 => evC T (env k) k R (frameL [(0, .str y0), (4, .slice y1), (8, .int .i64 y2), (9, .int .i64 y3)]) K) := by kernel_rfl
theorem bailifflaw02_ScanPieces.u3.ok {α : Type} (k : Nat) (x0 : List UInt8) (x1 : Sl) (x2 : Int) (x3 : Int) (R : IC) (K : Ex → Frame → M α) :
    evC T (env k) k (bailifflaw02_ScanPieces.u3.c R) (frameL [(0, .str x0), (4, .slice x1), (8, .int .i64 x2), (9, .int .i64 x3)]) K =
      bailifflaw02_ScanPieces.u3.f k x0 x1 x2 x3 (fun y0 y1 y2 y3 => evC T (env k) k R (frameL [(0, .str y0), (4, .slice y1), (8, .int .i64 y2), (9, .int .i64 y3)]) K) (fun y0 y1 y2 => K (.exit 0) (frameL [(0, .str y0), (4, .slice y1), (8, .int .i64 y2)])) := by kernel_rfl
theorem bailifflaw02_ScanPieces.u4.ok {α : Type} (k : Nat) (x0 : List UInt8) (x1 : Sl) (x2 : Int) (x3 : Int) (R : IC) (K : Ex → Frame → M α) :
    evC T (env k) k (bailifflaw02_ScanPieces.u4.c R) (frameL [(0, .str x0), (4, .slice x1), (8, .int .i64 x2), (9, .int .i64 x3)]) K =
      bailifflaw02_ScanPieces.u4.f k x0 x1 x2 x3 (fun y0 y1 y2 y3 y4 y5 => evC T (env k) k R (frameL [(0, .str y0), (4, .slice y1), (8, .int .i64 y2), (9, .int .i64 y3), (10, .ptr (some y4)), (11, .bool y5)]) K) (fun y0 => K .ret (frameL [(2, .bool y0)])) := by kernel_rfl
theorem bailifflaw02_ScanPieces.u5.ok {α : Type} (k : Nat) (x0 : List UInt8) (x1 : Sl) (x2 : Int) (x3 : Int) (x4 : Ad) (x5 : Bool) (R : IC) (K : Ex → Frame → M α) :
    evC T (env k) k (bailifflaw02_ScanPieces.u5.c R) (frameL [(0, .str x0), (4, .slice x1), (8, .int .i64 x2), (9, .int .i64 x3), (10, .ptr (some x4)), (11, .bool x5)]) K =
      bailifflaw02_ScanPieces.u5.f k x0 x1 x2 x3 x4 x5 (fun y0 y1 y2 y3 y4 y5 => evC T (env k) k R (frameL [(0, .str y0), (4, .slice y1), (9, .int .i64 y2), (10, .ptr (some y3)), (11, .bool y4), (12, .int .i64 y5)]) K) := by kernel_rfl
theorem bailifflaw02_ScanPieces.u6.ok {α : Type} (k : Nat) (x0 : List UInt8) (x1 : Sl) (x2 : Int) (x3 : Ad) (x4 : Bool) (x5 : Int) (K : Ex → Frame → M α) :
    evC T (env k) k bailifflaw02_ScanPieces.u6.c (frameL [(0, .str x0), (4, .slice x1), (9, .int .i64 x2), (10, .ptr (some x3)), (11, .bool x4), (12, .int .i64 x5)]) K =
      bailifflaw02_ScanPieces.u6.f k x0 x1 x2 x3 x4 x5 (fun y0 y1 y2 y3 y4 y5 => K .normal (frameL [(0, .str y0), (4, .slice y1), (9, .int .i64 y2), (10, .ptr (some y3)), (11, .bool y4), (12, .int .i64 y5)])) (fun y0 => K .ret (frameL [(2, .bool y0)])) (fun y0 y1 y2 y3 => K (.exit 2) (frameL [(0, .str y0), (4, .slice y1), (9, .int .i64 y2), (10, .ptr (some y3))])) := by kernel_rfl
theorem bailifflaw02_ScanPieces.u7.ls {α : Type} (k : Nat) (kr : Bool → M α) (kx2 : List UInt8 → Sl → Int → Ad → M α) (j : Nat) (x0 : List UInt8) (x1 : Sl) (x2 : Int) (x3 : Ad) (x4 : Bool) (x5 : Int) : bailifflaw02_ScanPieces.u7.l k kr kx2 (j + 1) x0 x1 x2 x3 x4 x5 =
  bailifflaw02_ScanPieces.u6.f k x0 x1 x2 x3 x4 x5 (fun y0 y1 y2 y3 y4 y5 => bailifflaw02_ScanPieces.u7.l k kr kx2 j y0 y1 y2 y3 y4 y5) kr kx2 := rfl
theorem bailifflaw02_ScanPieces.u7.okl {α : Type} (k : Nat) (K : Ex → Frame → M α) : ∀ (j : Nat) (x0 : List UInt8) (x1 : Sl) (x2 : Int) (x3 : Ad) (x4 : Bool) (x5 : Int),
    evLoop (evC T (env k) k bailifflaw02_ScanPieces.u6.c) [0, 4, 9, 10, 11, 12] j (frameL [(0, .str x0), (4, .slice x1), (9, .int .i64 x2), (10, .ptr (some x3)), (11, .bool x4), (12, .int .i64 x5)]) K = bailifflaw02_ScanPieces.u7.l k (fun y0 => K .ret (frameL [(2, .bool y0)])) (fun y0 y1 y2 y3 => K (.exit 2) (frameL [(0, .str y0), (4, .slice y1), (9, .int .i64 y2), (10, .ptr (some y3))])) j x0 x1 x2 x3 x4 x5
  | 0, _, _, _, _, _, _ => rfl
  | j + 1, x0, x1, x2, x3, x4, x5 => by
      have h := bailifflaw02_ScanPieces.u6.ok k x0 x1 x2 x3 x4 x5 (seqK (fun ρ => evLoop (evC T (env k) k bailifflaw02_ScanPieces.u6.c) [0, 4, 9, 10, 11, 12] j ρ K) K)
      simp only [seqK_exit, seqK_ret, seqK_pan, seqK_normal, bailifflaw02_ScanPieces.u7.okl k K j] at h
      exact (evLoop_step (by kernel_rfl) h).trans (bailifflaw02_ScanPieces.u7.ls k (fun y0 => K .ret (frameL [(2, .bool y0)])) (fun y0 y1 y2 y3 => K (.exit 2) (frameL [(0, .str y0), (4, .slice y1), (9, .int .i64 y2), (10, .ptr (some y3))])) j x0 x1 x2 x3 x4 x5).symm
theorem bailifflaw02_ScanPieces.u7.ok {α : Type} (k : Nat) (x0 : List UInt8) (x1 : Sl) (x2 : Int) (x3 : Ad) (x4 : Bool) (x5 : Int) (K : Ex → Frame → M α) :
    evC T (env k) k bailifflaw02_ScanPieces.u7.c (frameL [(0, .str x0), (4, .slice x1), (9, .int .i64 x2), (10, .ptr (some x3)), (11, .bool x4), (12, .int .i64 x5)]) K =
      bailifflaw02_ScanPieces.u7.f k x0 x1 x2 x3 x4 x5 (fun y0 => K .ret (frameL [(2, .bool y0)])) (fun y0 y1 y2 y3 => K (.exit 2) (frameL [(0, .str y0), (4, .slice y1), (9, .int .i64 y2), (10, .ptr (some y3))])) :=
  evC_loop.trans <| (evLoop_keep (body := evC T (env k) k bailifflaw02_ScanPieces.u6.c) (keep := [0, 4, 9, 10, 11, 12]) (ρ := (frameL [(0, .str x0), (4, .slice x1), (9, .int .i64 x2), (10, .ptr (some x3)), (11, .bool x4), (12, .int .i64 x5)])) (ρ' := (frameL [(0, .str x0), (4, .slice x1), (9, .int .i64 x2), (10, .ptr (some x3)), (11, .bool x4), (12, .int .i64 x5)])) (by kernel_rfl) k K).trans (bailifflaw02_ScanPieces.u7.okl k K k x0 x1 x2 x3 x4 x5)
theorem bailifflaw02_ScanPieces.u8.ok {α : Type} (k : Nat) (x0 : List UInt8) (x1 : Sl) (x2 : Int) (x3 : Ad) (x4 : Bool) (x5 : Int) (K : Ex → Frame → M α) :
    evC T (env k) k bailifflaw02_ScanPieces.u8.c (frameL [(0, .str x0), (4, .slice x1), (9, .int .i64 x2), (10, .ptr (some x3)), (11, .bool x4), (12, .int .i64 x5)]) K =
      bailifflaw02_ScanPieces.u8.f k x0 x1 x2 x3 x4 x5 (fun y0 y1 y2 y3 => K .normal (frameL [(0, .str y0), (4, .slice y1), (9, .int .i64 y2), (10, .ptr (some y3))])) (fun y0 => K .ret (frameL [(2, .bool y0)])) :=
  (evC_block.trans (bailifflaw02_ScanPieces.u7.ok k x0 x1 x2 x3 x4 x5 (blockK 2 K))).trans (by kernel_rfl)
theorem bailifflaw02_ScanPieces.u9.ok {α : Type} (k : Nat) (x0 : List UInt8) (x1 : Sl) (x2 : Int) (x3 : Int) (x4 : Ad) (x5 : Bool) (K : Ex → Frame → M α) :
    evC T (env k) k bailifflaw02_ScanPieces.u9.c (frameL [(0, .str x0), (4, .slice x1), (8, .int .i64 x2), (9, .int .i64 x3), (10, .ptr (some x4)), (11, .bool x5)]) K =
      bailifflaw02_ScanPieces.u9.f k x0 x1 x2 x3 x4 x5 (fun y0 y1 y2 y3 => K .normal (frameL [(0, .str y0), (4, .slice y1), (9, .int .i64 y2), (10, .ptr (some y3))])) (fun y0 => K .ret (frameL [(2, .bool y0)])) :=
  (bailifflaw02_ScanPieces.u5.ok k x0 x1 x2 x3 x4 x5 bailifflaw02_ScanPieces.u8.c K).trans
    (congrArg (fun z => bailifflaw02_ScanPieces.u5.f k x0 x1 x2 x3 x4 x5 z) (funext fun y0 => (funext fun y1 => (funext fun y2 => (funext fun y3 => (funext fun y4 => (funext fun y5 => bailifflaw02_ScanPieces.u8.ok k y0 y1 y2 y3 y4 y5 K)))))))
theorem bailifflaw02_ScanPieces.u10.ok {α : Type} (k : Nat) (x0 : List UInt8) (x1 : Sl) (x2 : Int) (x3 : Ad) (K : Ex → Frame → M α) :
    evC T (env k) k bailifflaw02_ScanPieces.u10.c (frameL [(0, .str x0), (4, .slice x1), (9, .int .i64 x2), (10, .ptr (some x3))]) K =
      bailifflaw02_ScanPieces.u10.f k x0 x1 x2 x3 (fun y0 y1 y2 y3 => K .normal (frameL [(0, .str y0), (4, .slice y1), (8, .int .i64 y2), (9, .int .i64 y3)])) := by kernel_rfl
theorem bailifflaw02_ScanPieces.u11.ok {α : Type} (k : Nat) (x0 : List UInt8) (x1 : Sl) (x2 : Int) (x3 : Int) (x4 : Ad) (x5 : Bool) (K : Ex → Frame → M α) :
    evC T (env k) k bailifflaw02_ScanPieces.u11.c (frameL [(0, .str x0), (4, .slice x1), (8, .int .i64 x2), (9, .int .i64 x3), (10, .ptr (some x4)), (11, .bool x5)]) K =
      bailifflaw02_ScanPieces.u11.f k x0 x1 x2 x3 x4 x5 (fun y0 y1 y2 y3 => K .normal (frameL [(0, .str y0), (4, .slice y1), (8, .int .i64 y2), (9, .int .i64 y3)])) (fun y0 => K .ret (frameL [(2, .bool y0)])) :=
  by
    have h := bailifflaw02_ScanPieces.u9.ok k x0 x1 x2 x3 x4 x5 (seqK (fun ρ => evC T (env k) k bailifflaw02_ScanPieces.u10.c ρ K) K)
    simp only [seqK_normal, seqK_exit, seqK_ret, seqK_pan, bailifflaw02_ScanPieces.u10.ok] at h
    exact evC_seq_of h
theorem bailifflaw02_ScanPieces.u12.ok {α : Type} (k : Nat) (x0 : List UInt8) (x1 : Sl) (x2 : Int) (x3 : Int) (K : Ex → Frame → M α) :
    evC T (env k) k bailifflaw02_ScanPieces.u12.c (frameL [(0, .str x0), (4, .slice x1), (8, .int .i64 x2), (9, .int .i64 x3)]) K =
      bailifflaw02_ScanPieces.u12.f k x0 x1 x2 x3 (fun y0 y1 y2 y3 => K .normal (frameL [(0, .str y0), (4, .slice y1), (8, .int .i64 y2), (9, .int .i64 y3)])) (fun y0 => K .ret (frameL [(2, .bool y0)])) :=
  (bailifflaw02_ScanPieces.u4.ok k x0 x1 x2 x3 bailifflaw02_ScanPieces.u11.c K).trans
    (congrArg (fun z => bailifflaw02_ScanPieces.u4.f k x0 x1 x2 x3 z (fun y0 => K .ret (frameL [(2, .bool y0)]))) (funext fun y0 => (funext fun y1 => (funext fun y2 => (funext fun y3 => (funext fun y4 => (funext fun y5 => bailifflaw02_ScanPieces.u11.ok k y0 y1 y2 y3 y4 y5 K)))))))
theorem bailifflaw02_ScanPieces.u13.ok {α : Type} (k : Nat) (x0 : List UInt8) (x1 : Sl) (x2 : Int) (x3 : Int) (K : Ex → Frame → M α) :
    evC T (env k) k bailifflaw02_ScanPieces.u13.c (frameL [(0, .str x0), (4, .slice x1), (8, .int .i64 x2), (9, .int .i64 x3)]) K =
      bailifflaw02_ScanPieces.u13.f k x0 x1 x2 x3 (fun y0 y1 y2 y3 => K .normal (frameL [(0, .str y0), (4, .slice y1), (8, .int .i64 y2), (9, .int .i64 y3)])) (fun y0 => K .ret (frameL [(2, .bool y0)])) :=
  (evC_block.trans (bailifflaw02_ScanPieces.u12.ok k x0 x1 x2 x3 (blockK 1 K))).trans (by kernel_rfl)
theorem bailifflaw02_ScanPieces.u14.ok {α : Type} (k : Nat) (x0 : List UInt8) (x1 : Sl) (x2 : Int) (x3 : Int) (K : Ex → Frame → M α) :
    evC T (env k) k bailifflaw02_ScanPieces.u14.c (frameL [(0, .str x0), (4, .slice x1), (8, .int .i64 x2), (9, .int .i64 x3)]) K =
      bailifflaw02_ScanPieces.u14.f k x0 x1 x2 x3 (fun y0 y1 y2 y3 => K .normal (frameL [(0, .str y0), (4, .slice y1), (8, .int .i64 y2), (9, .int .i64 y3)])) := by kernel_rfl
theorem bailifflaw02_ScanPieces.u15.ok {α : Type} (k : Nat) (x0 : List UInt8) (x1 : Sl) (x2 : Int) (x3 : Int) (K : Ex → Frame → M α) :
    evC T (env k) k bailifflaw02_ScanPieces.u15.c (frameL [(0, .str x0), (4, .slice x1), (8, .int .i64 x2), (9, .int .i64 x3)]) K =
      bailifflaw02_ScanPieces.u15.f k x0 x1 x2 x3 (fun y0 y1 y2 y3 => K .normal (frameL [(0, .str y0), (4, .slice y1), (8, .int .i64 y2), (9, .int .i64 y3)])) (fun y0 => K .ret (frameL [(2, .bool y0)])) :=
  by
    have h := bailifflaw02_ScanPieces.u13.ok k x0 x1 x2 x3 (seqK (fun ρ => evC T (env k) k bailifflaw02_ScanPieces.u14.c ρ K) K)
    simp only [seqK_normal, seqK_exit, seqK_ret, seqK_pan, bailifflaw02_ScanPieces.u14.ok] at h
    exact evC_seq_of h
theorem bailifflaw02_ScanPieces.u16.ok {α : Type} (k : Nat) (x0 : List UInt8) (x1 : Sl) (x2 : Int) (x3 : Int) (K : Ex → Frame → M α) :
    evC T (env k) k bailifflaw02_ScanPieces.u16.c (frameL [(0, .str x0), (4, .slice x1), (8, .int .i64 x2), (9, .int .i64 x3)]) K =
      bailifflaw02_ScanPieces.u16.f k x0 x1 x2 x3 (fun y0 y1 y2 y3 => K .normal (frameL [(0, .str y0), (4, .slice y1), (8, .int .i64 y2), (9, .int .i64 y3)])) (fun y0 => K .ret (frameL [(2, .bool y0)])) (fun y0 y1 y2 => K (.exit 0) (frameL [(0, .str y0), (4, .slice y1), (8, .int .i64 y2)])) :=
  (bailifflaw02_ScanPieces.u3.ok k x0 x1 x2 x3 bailifflaw02_ScanPieces.u15.c K).trans
    (congrArg (fun z => bailifflaw02_ScanPieces.u3.f k x0 x1 x2 x3 z (fun y0 y1 y2 => K (.exit 0) (frameL [(0, .str y0), (4, .slice y1), (8, .int .i64 y2)]))) (funext fun y0 => (funext fun y1 => (funext fun y2 => (funext fun y3 => bailifflaw02_ScanPieces.u15.ok k y0 y1 y2 y3 K)))))
theorem bailifflaw02_ScanPieces.u17.ls {α : Type} (k : Nat) (kr : Bool → M α) (kx0 : List UInt8 → Sl → Int → M α) (j : Nat) (x0 : List UInt8) (x1 : Sl) (x2 : Int) (x3 : Int) : bailifflaw02_ScanPieces.u17.l k kr kx0 (j + 1) x0 x1 x2 x3 =
  bailifflaw02_ScanPieces.u16.f k x0 x1 x2 x3 (fun y0 y1 y2 y3 => bailifflaw02_ScanPieces.u17.l k kr kx0 j y0 y1 y2 y3) kr kx0 := rfl
theorem bailifflaw02_ScanPieces.u17.okl {α : Type} (k : Nat) (K : Ex → Frame → M α) : ∀ (j : Nat) (x0 : List UInt8) (x1 : Sl) (x2 : Int) (x3 : Int),
    evLoop (evC T (env k) k bailifflaw02_ScanPieces.u16.c) [0, 4, 8, 9] j (frameL [(0, .str x0), (4, .slice x1), (8, .int .i64 x2), (9, .int .i64 x3)]) K = bailifflaw02_ScanPieces.u17.l k (fun y0 => K .ret (frameL [(2, .bool y0)])) (fun y0 y1 y2 => K (.exit 0) (frameL [(0, .str y0), (4, .slice y1), (8, .int .i64 y2)])) j x0 x1 x2 x3
  | 0, _, _, _, _ => rfl
  | j + 1, x0, x1, x2, x3 => by
      have h := bailifflaw02_ScanPieces.u16.ok k x0 x1 x2 x3 (seqK (fun ρ => evLoop (evC T (env k) k bailifflaw02_ScanPieces.u16.c) [0, 4, 8, 9] j ρ K) K)
      simp only [seqK_exit, seqK_ret, seqK_pan, seqK_normal, bailifflaw02_ScanPieces.u17.okl k K j] at h
      exact (evLoop_step (by kernel_rfl) h).trans (bailifflaw02_ScanPieces.u17.ls k (fun y0 => K .ret (frameL [(2, .bool y0)])) (fun y0 y1 y2 => K (.exit 0) (frameL [(0, .str y0), (4, .slice y1), (8, .int .i64 y2)])) j x0 x1 x2 x3).symm
theorem bailifflaw02_ScanPieces.u17.ok {α : Type} (k : Nat) (x0 : List UInt8) (x1 : Sl) (x2 : Int) (x3 : Int) (K : Ex → Frame → M α) :
    evC T (env k) k bailifflaw02_ScanPieces.u17.c (frameL [(0, .str x0), (4, .slice x1), (8, .int .i64 x2), (9, .int .i64 x3)]) K =
      bailifflaw02_ScanPieces.u17.f k x0 x1 x2 x3 (fun y0 => K .ret (frameL [(2, .bool y0)])) (fun y0 y1 y2 => K (.exit 0) (frameL [(0, .str y0), (4, .slice y1), (8, .int .i64 y2)])) :=
  evC_loop.trans <| (evLoop_keep (body := evC T (env k) k bailifflaw02_ScanPieces.u16.c) (keep := [0, 4, 8, 9]) (ρ := (frameL [(0, .str x0), (4, .slice x1), (8, .int .i64 x2), (9, .int .i64 x3)])) (ρ' := (frameL [(0, .str x0), (4, .slice x1), (8, .int .i64 x2), (9, .int .i64 x3)])) (by kernel_rfl) k K).trans (bailifflaw02_ScanPieces.u17.okl k K k x0 x1 x2 x3)
theorem bailifflaw02_ScanPieces.u18.ok {α : Type} (k : Nat) (x0 : List UInt8) (x1 : Sl) (x2 : Int) (x3 : Int) (K : Ex → Frame → M α) :
    evC T (env k) k bailifflaw02_ScanPieces.u18.c (frameL [(0, .str x0), (4, .slice x1), (8, .int .i64 x2), (9, .int .i64 x3)]) K =
      bailifflaw02_ScanPieces.u18.f k x0 x1 x2 x3 (fun y0 y1 y2 => K .normal (frameL [(0, .str y0), (4, .slice y1), (8, .int .i64 y2)])) (fun y0 => K .ret (frameL [(2, .bool y0)])) :=
  (evC_block.trans (bailifflaw02_ScanPieces.u17.ok k x0 x1 x2 x3 (blockK 0 K))).trans (by kernel_rfl)
theorem bailifflaw02_ScanPieces.u19.ok {α : Type} (k : Nat) (x0 : List UInt8) (x1 : Sl) (x2 : Int) (K : Ex → Frame → M α) :
    evC T (env k) k bailifflaw02_ScanPieces.u19.c (frameL [(0, .str x0), (4, .slice x1), (8, .int .i64 x2)]) K =
      bailifflaw02_ScanPieces.u19.f k x0 x1 x2 (fun y0 y1 y2 => K .normal (frameL [(0, .str y0), (4, .slice y1), (8, .int .i64 y2)])) (fun y0 => K .ret (frameL [(2, .bool y0)])) :=
  (bailifflaw02_ScanPieces.u2.ok k x0 x1 x2 bailifflaw02_ScanPieces.u18.c K).trans
    (congrArg (fun z => bailifflaw02_ScanPieces.u2.f k x0 x1 x2 z) (funext fun y0 => (funext fun y1 => (funext fun y2 => (funext fun y3 => bailifflaw02_ScanPieces.u18.ok k y0 y1 y2 y3 K)))))
theorem bailifflaw02_ScanPieces.u20.ok {α : Type} (k : Nat) (x0 : List UInt8) (x1 : Sl) (x2 : Int) (K : Ex → Frame → M α) :
    evC T (env k) k bailifflaw02_ScanPieces.u20.c (frameL [(0, .str x0), (4, .slice x1), (8, .int .i64 x2)]) K =
      bailifflaw02_ScanPieces.u20.f k x0 x1 x2 (fun y0 => K .ret (frameL [(2, .bool y0)])) := by kernel_rfl
theorem bailifflaw02_ScanPieces.u21.ok {α : Type} (k : Nat) (x0 : List UInt8) (x1 : Sl) (x2 : Int) (K : Ex → Frame → M α) :
    evC T (env k) k bailifflaw02_ScanPieces.u21.c (frameL [(0, .str x0), (4, .slice x1), (8, .int .i64 x2)]) K =
      bailifflaw02_ScanPieces.u21.f k x0 x1 x2 (fun y0 => K .ret (frameL [(2, .bool y0)])) :=
  by
    have h := bailifflaw02_ScanPieces.u19.ok k x0 x1 x2 (seqK (fun ρ => evC T (env k) k bailifflaw02_ScanPieces.u20.c ρ K) K)
    simp only [seqK_normal, seqK_exit, seqK_ret, seqK_pan, bailifflaw02_ScanPieces.u20.ok] at h
    exact evC_seq_of h
theorem bailifflaw02_ScanPieces.u22.ok {α : Type} (k : Nat) (x0 : List UInt8) (K : Ex → Frame → M α) :
    evC T (env k) k bailifflaw02_ScanPieces.u22.c (frameL [(0, .str x0)]) K =
      bailifflaw02_ScanPieces.u22.f k x0 (fun y0 => K .ret (frameL [(2, .bool y0)])) :=
  (bailifflaw02_ScanPieces.u1.ok k x0 bailifflaw02_ScanPieces.u21.c K).trans
    (congrArg (fun z => bailifflaw02_ScanPieces.u1.f k x0 z (fun y0 => K .ret (frameL [(2, .bool y0)]))) (funext fun y0 => (funext fun y1 => (funext fun y2 => bailifflaw02_ScanPieces.u21.ok k y0 y1 y2 K))))
theorem bailifflaw02_ScanPieces.ok {α : Type} (k : Nat) (x0 : List UInt8) (κ : Res → M α) :
    evF T (env k) k bailifflaw02_ScanPieces.c bailifflaw02_ScanPieces.res [.str x0] κ = bailifflaw02_ScanPieces.f (k + 1) x0 (fun o0 => κ (.ret (.bool o0))) :=
  (bailifflaw02_ScanPieces.u22.ok k x0 (retK T bailifflaw02_ScanPieces.res κ)).trans (by kernel_rfl)
theorem bailifflaw02_ScanPieces.code : bailifflaw02_ScanPieces.c.code = bodyOf Tryd.f4 := by kernel_rfl

noncomputable def bailifflaw02_ScanJoins.c : IC := bailifflaw02_ScanJoins.u1.c
noncomputable def bailifflaw02_ScanJoins.res : List ResultVar := [(.tmp 4)]
theorem bailifflaw02_ScanJoins.u1.ok {α : Type} (k : Nat) (x0 : List UInt8) (x1 : List UInt8) (K : Ex → Frame → M α) :
    evC T (env k) k bailifflaw02_ScanJoins.u1.c (frameL [(0, .str x0), (1, .str x1)]) K =
      bailifflaw02_ScanJoins.u1.f k x0 x1 (fun y0 => K .ret (frameL [(4, .bool y0)])) := by kernel_rfl
theorem bailifflaw02_ScanJoins.ok {α : Type} (k : Nat) (x0 : List UInt8) (x1 : List UInt8) (κ : Res → M α) :
    evF T (env k) k bailifflaw02_ScanJoins.c bailifflaw02_ScanJoins.res [.str x0, .str x1] κ = bailifflaw02_ScanJoins.f (k + 1) x0 x1 (fun o0 => κ (.ret (.bool o0))) :=
  (bailifflaw02_ScanJoins.u1.ok k x0 x1 (retK T bailifflaw02_ScanJoins.res κ)).trans (by kernel_rfl)
theorem bailifflaw02_ScanJoins.code : bailifflaw02_ScanJoins.c.code = bodyOf Tryd.f5 := by kernel_rfl

noncomputable def bailifflaw02_ScanNames.c : IC := bailifflaw02_ScanNames.u23.c
noncomputable def bailifflaw02_ScanNames.res : List ResultVar := [(.tmp 6)]
theorem bailifflaw02_ScanNames.u1.ok {α : Type} (k : Nat) (x0 : Int) (x1 : List UInt8) (x2 : Int) (R : IC) (K : Ex → Frame → M α) :
    evC T (env k) k (bailifflaw02_ScanNames.u1.c R) (frameL [(0, .int .u8 x0), (1, .str x1), (2, .int .i64 x2)]) K =
      bailifflaw02_ScanNames.u1.f k x0 x1 x2 (fun y0 y1 y2 y3 y4 => evC T (env k) k R (frameL [(0, .int .u8 y0), (1, .str y1), (2, .int .i64 y2), (7, .bool y3), (8, .str y4)]) K) := by kernel_rfl
theorem bailifflaw02_ScanNames.u2.ok {α : Type} (k : Nat) (x0 : Int) (x1 : List UInt8) (x2 : Int) (x3 : Bool) (x4 : List UInt8) (R : IC) (K : Ex → Frame → M α) :
    evC T (env k) k (bailifflaw02_ScanNames.u2.c R) (frameL [(0, .int .u8 x0), (1, .str x1), (2, .int .i64 x2), (7, .bool x3), (8, .str x4)]) K =
      bailifflaw02_ScanNames.u2.f k x0 x1 x2 x3 x4 (fun y0 y1 y2 y3 y4 y5 => evC T (env k) k R (frameL [(0, .int .u8 y0), (1, .str y1), (2, .int .i64 y2), (7, .bool y3), (8, .str y4), (9, .int .i64 y5)]) K) := by kernel_rfl
theorem bailifflaw02_ScanNames.u3.ok {α : Type} (k : Nat) (x0 : Int) (x1 : List UInt8) (x2 : Int) (x3 : Bool) (x4 : List UInt8) (x5 : Int) (K : Ex → Frame → M α) :
    evC T (env k) k bailifflaw02_ScanNames.u3.c (frameL [(0, .int .u8 x0), (1, .str x1), (2, .int .i64 x2), (7, .bool x3), (8, .str x4), (9, .int .i64 x5)]) K =
      bailifflaw02_ScanNames.u3.f k x0 x1 x2 x3 x4 x5 (fun y0 y1 y2 y3 y4 y5 => K .normal (frameL [(0, .int .u8 y0), (1, .str y1), (2, .int .i64 y2), (7, .bool y3), (8, .str y4), (9, .int .i64 y5)])) (fun y0 y1 y2 y3 => K (.exit 0) (frameL [(0, .int .u8 y0), (2, .int .i64 y1), (7, .bool y2), (8, .str y3)])) := by kernel_rfl
theorem bailifflaw02_ScanNames.u4.ls {α : Type} (k : Nat) (kx0 : Int → Int → Bool → List UInt8 → M α) (j : Nat) (x0 : Int) (x1 : List UInt8) (x2 : Int) (x3 : Bool) (x4 : List UInt8) (x5 : Int) : bailifflaw02_ScanNames.u4.l k kx0 (j + 1) x0 x1 x2 x3 x4 x5 =
  bailifflaw02_ScanNames.u3.f k x0 x1 x2 x3 x4 x5 (fun y0 y1 y2 y3 y4 y5 => bailifflaw02_ScanNames.u4.l k kx0 j y0 y1 y2 y3 y4 y5) kx0 := rfl
theorem bailifflaw02_ScanNames.u4.okl {α : Type} (k : Nat) (K : Ex → Frame → M α) : ∀ (j : Nat) (x0 : Int) (x1 : List UInt8) (x2 : Int) (x3 : Bool) (x4 : List UInt8) (x5 : Int),
    evLoop (evC T (env k) k bailifflaw02_ScanNames.u3.c) [0, 1, 2, 7, 8, 9] j (frameL [(0, .int .u8 x0), (1, .str x1), (2, .int .i64 x2), (7, .bool x3), (8, .str x4), (9, .int .i64 x5)]) K = bailifflaw02_ScanNames.u4.l k (fun y0 y1 y2 y3 => K (.exit 0) (frameL [(0, .int .u8 y0), (2, .int .i64 y1), (7, .bool y2), (8, .str y3)])) j x0 x1 x2 x3 x4 x5
  | 0, _, _, _, _, _, _ => rfl
  | j + 1, x0, x1, x2, x3, x4, x5 => by
      have h := bailifflaw02_ScanNames.u3.ok k x0 x1 x2 x3 x4 x5 (seqK (fun ρ => evLoop (evC T (env k) k bailifflaw02_ScanNames.u3.c) [0, 1, 2, 7, 8, 9] j ρ K) K)
      simp only [seqK_exit, seqK_ret, seqK_pan, seqK_normal, bailifflaw02_ScanNames.u4.okl k K j] at h
      exact (evLoop_step (by kernel_rfl) h).trans (bailifflaw02_ScanNames.u4.ls k (fun y0 y1 y2 y3 => K (.exit 0) (frameL [(0, .int .u8 y0), (2, .int .i64 y1), (7, .bool y2), (8, .str y3)])) j x0 x1 x2 x3 x4 x5).symm
theorem bailifflaw02_ScanNames.u4.ok {α : Type} (k : Nat) (x0 : Int) (x1 : List UInt8) (x2 : Int) (x3 : Bool) (x4 : List UInt8) (x5 : Int) (K : Ex → Frame → M α) :
    evC T (env k) k bailifflaw02_ScanNames.u4.c (frameL [(0, .int .u8 x0), (1, .str x1), (2, .int .i64 x2), (7, .bool x3), (8, .str x4), (9, .int .i64 x5)]) K =
      bailifflaw02_ScanNames.u4.f k x0 x1 x2 x3 x4 x5 (fun y0 y1 y2 y3 => K (.exit 0) (frameL [(0, .int .u8 y0), (2, .int .i64 y1), (7, .bool y2), (8, .str y3)])) :=
  evC_loop.trans <| (evLoop_keep (body := evC T (env k) k bailifflaw02_ScanNames.u3.c) (keep := [0, 1, 2, 7, 8, 9]) (ρ := (frameL [(0, .int .u8 x0), (1, .str x1), (2, .int .i64 x2), (7, .bool x3), (8, .str x4), (9, .int .i64 x5)])) (ρ' := (frameL [(0, .int .u8 x0), (1, .str x1), (2, .int .i64 x2), (7, .bool x3), (8, .str x4), (9, .int .i64 x5)])) (by kernel_rfl) k K).trans (bailifflaw02_ScanNames.u4.okl k K k x0 x1 x2 x3 x4 x5)
theorem bailifflaw02_ScanNames.u5.ok {α : Type} (k : Nat) (x0 : Int) (x1 : List UInt8) (x2 : Int) (x3 : Bool) (x4 : List UInt8) (x5 : Int) (K : Ex → Frame → M α) :
    evC T (env k) k bailifflaw02_ScanNames.u5.c (frameL [(0, .int .u8 x0), (1, .str x1), (2, .int .i64 x2), (7, .bool x3), (8, .str x4), (9, .int .i64 x5)]) K =
      bailifflaw02_ScanNames.u5.f k x0 x1 x2 x3 x4 x5 (fun y0 y1 y2 y3 => K .normal (frameL [(0, .int .u8 y0), (2, .int .i64 y1), (7, .bool y2), (8, .str y3)])) :=
  (evC_block.trans (bailifflaw02_ScanNames.u4.ok k x0 x1 x2 x3 x4 x5 (blockK 0 K))).trans (by kernel_rfl)
theorem bailifflaw02_ScanNames.u6.ok {α : Type} (k : Nat) (x0 : Int) (x1 : List UInt8) (x2 : Int) (x3 : Bool) (x4 : List UInt8) (K : Ex → Frame → M α) :
    evC T (env k) k bailifflaw02_ScanNames.u6.c (frameL [(0, .int .u8 x0), (1, .str x1), (2, .int .i64 x2), (7, .bool x3), (8, .str x4)]) K =
      bailifflaw02_ScanNames.u6.f k x0 x1 x2 x3 x4 (fun y0 y1 y2 y3 => K .normal (frameL [(0, .int .u8 y0), (2, .int .i64 y1), (7, .bool y2), (8, .str y3)])) :=
  (bailifflaw02_ScanNames.u2.ok k x0 x1 x2 x3 x4 bailifflaw02_ScanNames.u5.c K).trans
    (congrArg (fun z => bailifflaw02_ScanNames.u2.f k x0 x1 x2 x3 x4 z) (funext fun y0 => (funext fun y1 => (funext fun y2 => (funext fun y3 => (funext fun y4 => (funext fun y5 => bailifflaw02_ScanNames.u5.ok k y0 y1 y2 y3 y4 y5 K)))))))
theorem bailifflaw02_ScanNames.u7.ok {α : Type} (k : Nat) (x0 : Int) (x1 : Int) (x2 : Bool) (x3 : List UInt8) (R : IC) (K : Ex → Frame → M α) :
    evC T (env k) k (bailifflaw02_ScanNames.u7.c R) (frameL [(0, .int .u8 x0), (2, .int .i64 x1), (7, .bool x2), (8, .str x3)]) K =
      bailifflaw02_ScanNames.u7.f k x0 x1 x2 x3 (fun y0 y1 y2 y3 y4 y5 y6 y7 y8 => evC T (env k) k R (frameL [(0, .int .u8 y0), (2, .int .i64 y1), (7, .bool y2), (8, .str y3), (10, .slice y4), (11, y5), (12, .int .i64 y6), (13, .int .i64 y7), (14, .bool y8)]) K) := by kernel_rfl
theorem bailifflaw02_ScanNames.u8.ok {α : Type} (k : Nat) (x0 : Int) (x1 : Int) (x2 : Bool) (x3 : List UInt8) (x4 : Sl) (x5 : V) (x6 : Int) (x7 : Int) (x8 : Bool) (R : IC) (K : Ex → Frame → M α) :
    evC T (env k) k (bailifflaw02_ScanNames.u8.c R) (frameL [(0, .int .u8 x0), (2, .int .i64 x1), (7, .bool x2), (8, .str x3), (10, .slice x4), (11, x5), (12, .int .i64 x6), (13, .int .i64 x7), (14, .bool x8)]) K =
      bailifflaw02_ScanNames.u8.f k x0 x1 x2 x3 x4 x5 x6 x7 x8 (fun y0 y1 y2 y3 y4 y5 y6 y7 y8 => evC T (env k) k R (frameL [(2, .int .i64 y0), (7, .bool y1), (8, .str y2), (10, .slice y3), (11, y4), (12, .int .i64 y5), (13, .int .i64 y6), (14, .bool y7), (15, .bool y8)]) K) := by kernel_rfl
theorem bailifflaw02_ScanNames.u9.ok {α : Type} (k : Nat) (x0 : Int) (x1 : Bool) (x2 : List UInt8) (x3 : Sl) (x4 : V) (x5 : Int) (x6 : Int) (x7 : Bool) (x8 : Bool) (R : IC) (K : Ex → Frame → M α) :
    evC T (env k) k (bailifflaw02_ScanNames.u9.c R) (frameL [(2, .int .i64 x0), (7, .bool x1), (8, .str x2), (10, .slice x3), (11, x4), (12, .int .i64 x5), (13, .int .i64 x6), (14, .bool x7), (15, .bool x8)]) K =
      bailifflaw02_ScanNames.u9.f k x0 x1 x2 x3 x4 x5 x6 x7 x8 (fun y0 y1 => evC T (env k) k R (frameL [(2, .int .i64 y0), (7, .bool y1)]) K) (fun y0 => K .ret (frameL [(6, .bool y0)])) := by kernel_rfl
theorem bailifflaw02_ScanNames.u10.ok {α : Type} (k : Nat) (x0 : Int) (x1 : Bool) (R : IC) (K : Ex → Frame → M α) :
    evC T (env k) k (bailifflaw02_ScanNames.u10.c R) (frameL [(2, .int .i64 x0), (7, .bool x1)]) K =
      bailifflaw02_ScanNames.u10.f k x0 x1 (fun y0 y1 => evC T (env k) k R (frameL [(2, .int .i64 y0), (7, .bool y1)]) K) := by kernel_rfl
theorem bailifflaw02_ScanNames.u11.ok {α : Type} (k : Nat) (x0 : Int) (x1 : Bool) (R : IC) (K : Ex → Frame → M α) :
    evC T (env k) k (bailifflaw02_ScanNames.u11.c R) (frameL [(2, .int .i64 x0), (7, .bool x1)]) K =
      bailifflaw02_ScanNames.u11.f k x0 x1 (fun y0 y1 y2 => evC T (env k) k R (frameL [(2, .int .i64 y0), (7, .bool y1), (17, .str y2)]) K) := by kernel_rfl
theorem bailifflaw02_ScanNames.u12.ok {α : Type} (k : Nat) (x0 : Int) (x1 : Bool) (x2 : List UInt8) (K : Ex → Frame → M α) :
    evC T (env k) k bailifflaw02_ScanNames.u12.c (frameL [(2, .int .i64 x0), (7, .bool x1), (17, .str x2)]) K =
      bailifflaw02_ScanNames.u12.f k x0 x1 x2 (fun y0 y1 y2 => K .normal (frameL [(2, .int .i64 y0), (7, .bool y1), (17, .str y2)])) (fun y0 => K .ret (frameL [(6, .bool y0)])) (fun y0 y1 y2 => K (.exit 3) (frameL [(2, .int .i64 y0), (7, .bool y1), (17, .str y2)])) := by kernel_rfl
theorem bailifflaw02_ScanNames.u13.ls {α : Type} (k : Nat) (kr : Bool → M α) (kx3 : Int → Bool → List UInt8 → M α) (j : Nat) (x0 : Int) (x1 : Bool) (x2 : List UInt8) : bailifflaw02_ScanNames.u13.l k kr kx3 (j + 1) x0 x1 x2 =
  bailifflaw02_ScanNames.u12.f k x0 x1 x2 (fun y0 y1 y2 => bailifflaw02_ScanNames.u13.l k kr kx3 j y0 y1 y2) kr kx3 := rfl
theorem bailifflaw02_ScanNames.u13.okl {α : Type} (k : Nat) (K : Ex → Frame → M α) : ∀ (j : Nat) (x0 : Int) (x1 : Bool) (x2 : List UInt8),
    evLoop (evC T (env k) k bailifflaw02_ScanNames.u12.c) [2, 7, 17] j (frameL [(2, .int .i64 x0), (7, .bool x1), (17, .str x2)]) K = bailifflaw02_ScanNames.u13.l k (fun y0 => K .ret (frameL [(6, .bool y0)])) (fun y0 y1 y2 => K (.exit 3) (frameL [(2, .int .i64 y0), (7, .bool y1), (17, .str y2)])) j x0 x1 x2
  | 0, _, _, _ => rfl
  | j + 1, x0, x1, x2 => by
      have h := bailifflaw02_ScanNames.u12.ok k x0 x1 x2 (seqK (fun ρ => evLoop (evC T (env k) k bailifflaw02_ScanNames.u12.c) [2, 7, 17] j ρ K) K)
      simp only [seqK_exit, seqK_ret, seqK_pan, seqK_normal, bailifflaw02_ScanNames.u13.okl k K j] at h
      exact (evLoop_step (by kernel_rfl) h).trans (bailifflaw02_ScanNames.u13.ls k (fun y0 => K .ret (frameL [(6, .bool y0)])) (fun y0 y1 y2 => K (.exit 3) (frameL [(2, .int .i64 y0), (7, .bool y1), (17, .str y2)])) j x0 x1 x2).symm
theorem bailifflaw02_ScanNames.u13.ok {α : Type} (k : Nat) (x0 : Int) (x1 : Bool) (x2 : List UInt8) (K : Ex → Frame → M α) :
    evC T (env k) k bailifflaw02_ScanNames.u13.c (frameL [(2, .int .i64 x0), (7, .bool x1), (17, .str x2)]) K =
      bailifflaw02_ScanNames.u13.f k x0 x1 x2 (fun y0 => K .ret (frameL [(6, .bool y0)])) (fun y0 y1 y2 => K (.exit 3) (frameL [(2, .int .i64 y0), (7, .bool y1), (17, .str y2)])) :=
  evC_loop.trans <| (evLoop_keep (body := evC T (env k) k bailifflaw02_ScanNames.u12.c) (keep := [2, 7, 17]) (ρ := (frameL [(2, .int .i64 x0), (7, .bool x1), (17, .str x2)])) (ρ' := (frameL [(2, .int .i64 x0), (7, .bool x1), (17, .str x2)])) (by kernel_rfl) k K).trans (bailifflaw02_ScanNames.u13.okl k K k x0 x1 x2)
theorem bailifflaw02_ScanNames.u14.ok {α : Type} (k : Nat) (x0 : Int) (x1 : Bool) (x2 : List UInt8) (K : Ex → Frame → M α) :
    evC T (env k) k bailifflaw02_ScanNames.u14.c (frameL [(2, .int .i64 x0), (7, .bool x1), (17, .str x2)]) K =
      bailifflaw02_ScanNames.u14.f k x0 x1 x2 (fun y0 y1 y2 => K .normal (frameL [(2, .int .i64 y0), (7, .bool y1), (17, .str y2)])) (fun y0 => K .ret (frameL [(6, .bool y0)])) :=
  (evC_block.trans (bailifflaw02_ScanNames.u13.ok k x0 x1 x2 (blockK 3 K))).trans (by kernel_rfl)
theorem bailifflaw02_ScanNames.u15.ok {α : Type} (k : Nat) (x0 : Int) (x1 : Bool) (x2 : List UInt8) (K : Ex → Frame → M α) :
    evC T (env k) k bailifflaw02_ScanNames.u15.c (frameL [(2, .int .i64 x0), (7, .bool x1), (17, .str x2)]) K =
      bailifflaw02_ScanNames.u15.f k x0 x1 x2 (fun y0 => K .ret (frameL [(6, .bool y0)])) := by kernel_rfl
theorem bailifflaw02_ScanNames.u16.ok {α : Type} (k : Nat) (x0 : Int) (x1 : Bool) (x2 : List UInt8) (K : Ex → Frame → M α) :
    evC T (env k) k bailifflaw02_ScanNames.u16.c (frameL [(2, .int .i64 x0), (7, .bool x1), (17, .str x2)]) K =
      bailifflaw02_ScanNames.u16.f k x0 x1 x2 (fun y0 => K .ret (frameL [(6, .bool y0)])) :=
  by
    have h := bailifflaw02_ScanNames.u14.ok k x0 x1 x2 (seqK (fun ρ => evC T (env k) k bailifflaw02_ScanNames.u15.c ρ K) K)
    simp only [seqK_normal, seqK_exit, seqK_ret, seqK_pan, bailifflaw02_ScanNames.u15.ok] at h
    exact evC_seq_of h
theorem bailifflaw02_ScanNames.u17.ok {α : Type} (k : Nat) (x0 : Int) (x1 : Bool) (K : Ex → Frame → M α) :
    evC T (env k) k bailifflaw02_ScanNames.u17.c (frameL [(2, .int .i64 x0), (7, .bool x1)]) K =
      bailifflaw02_ScanNames.u17.f k x0 x1 (fun y0 => K .ret (frameL [(6, .bool y0)])) :=
  (bailifflaw02_ScanNames.u11.ok k x0 x1 bailifflaw02_ScanNames.u16.c K).trans
    (congrArg (fun z => bailifflaw02_ScanNames.u11.f k x0 x1 z) (funext fun y0 => (funext fun y1 => (funext fun y2 => bailifflaw02_ScanNames.u16.ok k y0 y1 y2 K))))
theorem bailifflaw02_ScanNames.u18.ok {α : Type} (k : Nat) (x0 : Int) (x1 : Bool) (K : Ex → Frame → M α) :
    evC T (env k) k bailifflaw02_ScanNames.u18.c (frameL [(2, .int .i64 x0), (7, .bool x1)]) K =
      bailifflaw02_ScanNames.u18.f k x0 x1 (fun y0 => K .ret (frameL [(6, .bool y0)])) :=
  (bailifflaw02_ScanNames.u10.ok k x0 x1 bailifflaw02_ScanNames.u17.c K).trans
    (congrArg (fun z => bailifflaw02_ScanNames.u10.f k x0 x1 z) (funext fun y0 => (funext fun y1 => bailifflaw02_ScanNames.u17.ok k y0 y1 K)))
theorem bailifflaw02_ScanNames.u19.ok {α : Type} (k : Nat) (x0 : Int) (x1 : Bool) (x2 : List UInt8) (x3 : Sl) (x4 : V) (x5 : Int) (x6 : Int) (x7 : Bool) (x8 : Bool) (K : Ex → Frame → M α) :
    evC T (env k) k bailifflaw02_ScanNames.u19.c (frameL [(2, .int .i64 x0), (7, .bool x1), (8, .str x2), (10, .slice x3), (11, x4), (12, .int .i64 x5), (13, .int .i64 x6), (14, .bool x7), (15, .bool x8)]) K =
      bailifflaw02_ScanNames.u19.f k x0 x1 x2 x3 x4 x5 x6 x7 x8 (fun y0 => K .ret (frameL [(6, .bool y0)])) :=
  (bailifflaw02_ScanNames.u9.ok k x0 x1 x2 x3 x4 x5 x6 x7 x8 bailifflaw02_ScanNames.u18.c K).trans
    (congrArg (fun z => bailifflaw02_ScanNames.u9.f k x0 x1 x2 x3 x4 x5 x6 x7 x8 z (fun y0 => K .ret (frameL [(6, .bool y0)]))) (funext fun y0 => (funext fun y1 => bailifflaw02_ScanNames.u18.ok k y0 y1 K)))
theorem bailifflaw02_ScanNames.u20.ok {α : Type} (k : Nat) (x0 : Int) (x1 : Int) (x2 : Bool) (x3 : List UInt8) (x4 : Sl) (x5 : V) (x6 : Int) (x7 : Int) (x8 : Bool) (K : Ex → Frame → M α) :
    evC T (env k) k bailifflaw02_ScanNames.u20.c (frameL [(0, .int .u8 x0), (2, .int .i64 x1), (7, .bool x2), (8, .str x3), (10, .slice x4), (11, x5), (12, .int .i64 x6), (13, .int .i64 x7), (14, .bool x8)]) K =
      bailifflaw02_ScanNames.u20.f k x0 x1 x2 x3 x4 x5 x6 x7 x8 (fun y0 => K .ret (frameL [(6, .bool y0)])) :=
  (bailifflaw02_ScanNames.u8.ok k x0 x1 x2 x3 x4 x5 x6 x7 x8 bailifflaw02_ScanNames.u19.c K).trans
    (congrArg (fun z => bailifflaw02_ScanNames.u8.f k x0 x1 x2 x3 x4 x5 x6 x7 x8 z) (funext fun y0 => (funext fun y1 => (funext fun y2 => (funext fun y3 => (funext fun y4 => (funext fun y5 => (funext fun y6 => (funext fun y7 => (funext fun y8 => bailifflaw02_ScanNames.u19.ok k y0 y1 y2 y3 y4 y5 y6 y7 y8 K))))))))))
theorem bailifflaw02_ScanNames.u21.ok {α : Type} (k : Nat) (x0 : Int) (x1 : Int) (x2 : Bool) (x3 : List UInt8) (K : Ex → Frame → M α) :
    evC T (env k) k bailifflaw02_ScanNames.u21.c (frameL [(0, .int .u8 x0), (2, .int .i64 x1), (7, .bool x2), (8, .str x3)]) K =
      bailifflaw02_ScanNames.u21.f k x0 x1 x2 x3 (fun y0 => K .ret (frameL [(6, .bool y0)])) :=
  (bailifflaw02_ScanNames.u7.ok k x0 x1 x2 x3 bailifflaw02_ScanNames.u20.c K).trans
    (congrArg (fun z => bailifflaw02_ScanNames.u7.f k x0 x1 x2 x3 z) (funext fun y0 => (funext fun y1 => (funext fun y2 => (funext fun y3 => (funext fun y4 => (funext fun y5 => (funext fun y6 => (funext fun y7 => (funext fun y8 => bailifflaw02_ScanNames.u20.ok k y0 y1 y2 y3 y4 y5 y6 y7 y8 K))))))))))
theorem bailifflaw02_ScanNames.u22.ok {α : Type} (k : Nat) (x0 : Int) (x1 : List UInt8) (x2 : Int) (x3 : Bool) (x4 : List UInt8) (K : Ex → Frame → M α) :
    evC T (env k) k bailifflaw02_ScanNames.u22.c (frameL [(0, .int .u8 x0), (1, .str x1), (2, .int .i64 x2), (7, .bool x3), (8, .str x4)]) K =
      bailifflaw02_ScanNames.u22.f k x0 x1 x2 x3 x4 (fun y0 => K .ret (frameL [(6, .bool y0)])) :=
  by
    have h := bailifflaw02_ScanNames.u6.ok k x0 x1 x2 x3 x4 (seqK (fun ρ => evC T (env k) k bailifflaw02_ScanNames.u21.c ρ K) K)
    simp only [seqK_normal, seqK_exit, seqK_ret, seqK_pan, bailifflaw02_ScanNames.u21.ok] at h
    exact evC_seq_of h
theorem bailifflaw02_ScanNames.u23.ok {α : Type} (k : Nat) (x0 : Int) (x1 : List UInt8) (x2 : Int) (K : Ex → Frame → M α) :
    evC T (env k) k bailifflaw02_ScanNames.u23.c (frameL [(0, .int .u8 x0), (1, .str x1), (2, .int .i64 x2)]) K =
      bailifflaw02_ScanNames.u23.f k x0 x1 x2 (fun y0 => K .ret (frameL [(6, .bool y0)])) :=
  (bailifflaw02_ScanNames.u1.ok k x0 x1 x2 bailifflaw02_ScanNames.u22.c K).trans
    (congrArg (fun z => bailifflaw02_ScanNames.u1.f k x0 x1 x2 z) (funext fun y0 => (funext fun y1 => (funext fun y2 => (funext fun y3 => (funext fun y4 => bailifflaw02_ScanNames.u22.ok k y0 y1 y2 y3 y4 K))))))
theorem bailifflaw02_ScanNames.ok {α : Type} (k : Nat) (x0 : Int) (x1 : List UInt8) (x2 : Int) (κ : Res → M α) :
    evF T (env k) k bailifflaw02_ScanNames.c bailifflaw02_ScanNames.res [.int .u8 x0, .str x1, .int .i64 x2] κ = bailifflaw02_ScanNames.f (k + 1) x0 x1 x2 (fun o0 => κ (.ret (.bool o0))) :=
  (bailifflaw02_ScanNames.u23.ok k x0 x1 x2 (retK T bailifflaw02_ScanNames.res κ)).trans (by kernel_rfl)
theorem bailifflaw02_ScanNames.code : bailifflaw02_ScanNames.c.code = bodyOf Tryd.f6 := by kernel_rfl

noncomputable def bailifflaw02_ScanSigns.c : IC := bailifflaw02_ScanSigns.u3.c
noncomputable def bailifflaw02_ScanSigns.res : List ResultVar := [(.tmp 2)]
theorem bailifflaw02_ScanSigns.u1.ok {α : Type} (k : Nat) (x0 : Int) (R : IC) (K : Ex → Frame → M α) :
    evC T (env k) k (bailifflaw02_ScanSigns.u1.c R) (frameL [(0, .int .u8 x0)]) K =
      bailifflaw02_ScanSigns.u1.f k x0 (fun y0 y1 y2 y3 y4 => evC T (env k) k R (frameL [(0, .int .u8 y0), (3, .bool y1), (4, .slice y2), (5, y3), (8, .int .i64 y4)]) K) (fun y0 => K .ret (frameL [(2, .bool y0)])) := by kernel_rfl
theorem bailifflaw02_ScanSigns.u2.ok {α : Type} (k : Nat) (x0 : Int) (x1 : Bool) (x2 : Sl) (x3 : V) (x4 : Int) (K : Ex → Frame → M α) :
    evC T (env k) k bailifflaw02_ScanSigns.u2.c (frameL [(0, .int .u8 x0), (3, .bool x1), (4, .slice x2), (5, x3), (8, .int .i64 x4)]) K =
      bailifflaw02_ScanSigns.u2.f k x0 x1 x2 x3 x4 (fun y0 => K .ret (frameL [(2, .bool y0)])) := by kernel_rfl
theorem bailifflaw02_ScanSigns.u3.ok {α : Type} (k : Nat) (x0 : Int) (K : Ex → Frame → M α) :
    evC T (env k) k bailifflaw02_ScanSigns.u3.c (frameL [(0, .int .u8 x0)]) K =
      bailifflaw02_ScanSigns.u3.f k x0 (fun y0 => K .ret (frameL [(2, .bool y0)])) :=
  (bailifflaw02_ScanSigns.u1.ok k x0 bailifflaw02_ScanSigns.u2.c K).trans
    (congrArg (fun z => bailifflaw02_ScanSigns.u1.f k x0 z (fun y0 => K .ret (frameL [(2, .bool y0)]))) (funext fun y0 => (funext fun y1 => (funext fun y2 => (funext fun y3 => (funext fun y4 => bailifflaw02_ScanSigns.u2.ok k y0 y1 y2 y3 y4 K))))))
theorem bailifflaw02_ScanSigns.ok {α : Type} (k : Nat) (x0 : Int) (κ : Res → M α) :
    evF T (env k) k bailifflaw02_ScanSigns.c bailifflaw02_ScanSigns.res [.int .u8 x0] κ = bailifflaw02_ScanSigns.f (k + 1) x0 (fun o0 => κ (.ret (.bool o0))) :=
  (bailifflaw02_ScanSigns.u3.ok k x0 (retK T bailifflaw02_ScanSigns.res κ)).trans (by kernel_rfl)
theorem bailifflaw02_ScanSigns.code : bailifflaw02_ScanSigns.c.code = bodyOf Tryd.f7 := by kernel_rfl

noncomputable def bailifflaw02_ScanUpTo.c : IC := bailifflaw02_ScanUpTo.u1.c
noncomputable def bailifflaw02_ScanUpTo.res : List ResultVar := [(.tmp 2)]
theorem bailifflaw02_ScanUpTo.u1.ok {α : Type} (k : Nat) (x0 : List UInt8) (K : Ex → Frame → M α) :
    evC T (env k) k bailifflaw02_ScanUpTo.u1.c (frameL [(0, .str x0)]) K =
      bailifflaw02_ScanUpTo.u1.f k x0 (fun y0 => K .ret (frameL [(2, .bool y0)])) := by kernel_rfl
theorem bailifflaw02_ScanUpTo.ok {α : Type} (k : Nat) (x0 : List UInt8) (κ : Res → M α) :
    evF T (env k) k bailifflaw02_ScanUpTo.c bailifflaw02_ScanUpTo.res [.str x0] κ = bailifflaw02_ScanUpTo.f (k + 1) x0 (fun o0 => κ (.ret (.bool o0))) :=
  (bailifflaw02_ScanUpTo.u1.ok k x0 (retK T bailifflaw02_ScanUpTo.res κ)).trans (by kernel_rfl)
theorem bailifflaw02_ScanUpTo.code : bailifflaw02_ScanUpTo.c.code = bodyOf Tryd.f8 := by kernel_rfl

noncomputable def bailifflaw02_ScanCuts.c : IC := bailifflaw02_ScanCuts.u11.c
noncomputable def bailifflaw02_ScanCuts.res : List ResultVar := [(.tmp 4)]
theorem bailifflaw02_ScanCuts.u1.ok {α : Type} (k : Nat) (x0 : List UInt8) (x1 : Int) (R : IC) (K : Ex → Frame → M α) :
    evC T (env k) k (bailifflaw02_ScanCuts.u1.c R) (frameL [(0, .str x0), (1, .int .i64 x1)]) K =
      bailifflaw02_ScanCuts.u1.f k x0 x1 (fun y0 y1 y2 => evC T (env k) k R (frameL [(0, .str y0), (1, .int .i64 y1), (6, .slice y2)]) K) (fun y0 => K .ret (frameL [(4, .bool y0)])) := by kernel_rfl
theorem bailifflaw02_ScanCuts.u2.ok {α : Type} (k : Nat) (x0 : List UInt8) (x1 : Int) (x2 : Sl) (R : IC) (K : Ex → Frame → M α) :
    evC T (env k) k (bailifflaw02_ScanCuts.u2.c R) (frameL [(0, .str x0), (1, .int .i64 x1), (6, .slice x2)]) K =
      bailifflaw02_ScanCuts.u2.f k x0 x1 x2 (fun y0 y1 y2 => evC T (env k) k R (frameL [(6, .slice y0), (8, .int .i64 y1), (10, .slice y2)]) K) (fun y0 => K .ret (frameL [(4, .bool y0)])) := by kernel_rfl
theorem bailifflaw02_ScanCuts.u3.ok {α : Type} (k : Nat) (x0 : Sl) (x1 : Int) (x2 : Sl) (R : IC) (K : Ex → Frame → M α) :
    evC T (env k) k (bailifflaw02_ScanCuts.u3.c R) (frameL [(6, .slice x0), (8, .int .i64 x1), (10, .slice x2)]) K =
      bailifflaw02_ScanCuts.u3.f k x0 x1 x2 (fun y0 y1 y2 y3 => evC T (env k) k R (frameL [(6, .slice y0), (8, .int .i64 y1), (10, .slice y2), (12, .int .i64 y3)]) K) := by kernel_rfl
theorem bailifflaw02_ScanCuts.u4.ok {α : Type} (k : Nat) (x0 : Sl) (x1 : Int) (x2 : Sl) (x3 : Int) (K : Ex → Frame → M α) :
    evC T (env k) k bailifflaw02_ScanCuts.u4.c (frameL [(6, .slice x0), (8, .int .i64 x1), (10, .slice x2), (12, .int .i64 x3)]) K =
      bailifflaw02_ScanCuts.u4.f k x0 x1 x2 x3 (fun y0 y1 y2 y3 => K .normal (frameL [(6, .slice y0), (8, .int .i64 y1), (10, .slice y2), (12, .int .i64 y3)])) (fun y0 => K .ret (frameL [(4, .bool y0)])) (K (.exit 0) (frameL [])) := by kernel_rfl
theorem bailifflaw02_ScanCuts.u5.ls {α : Type} (k : Nat) (kr : Bool → M α) (kx0 : M α) (j : Nat) (x0 : Sl) (x1 : Int) (x2 : Sl) (x3 : Int) : bailifflaw02_ScanCuts.u5.l k kr kx0 (j + 1) x0 x1 x2 x3 =
  bailifflaw02_ScanCuts.u4.f k x0 x1 x2 x3 (fun y0 y1 y2 y3 => bailifflaw02_ScanCuts.u5.l k kr kx0 j y0 y1 y2 y3) kr kx0 := rfl
theorem bailifflaw02_ScanCuts.u5.okl {α : Type} (k : Nat) (K : Ex → Frame → M α) : ∀ (j : Nat) (x0 : Sl) (x1 : Int) (x2 : Sl) (x3 : Int),
    evLoop (evC T (env k) k bailifflaw02_ScanCuts.u4.c) [6, 8, 10, 12] j (frameL [(6, .slice x0), (8, .int .i64 x1), (10, .slice x2), (12, .int .i64 x3)]) K = bailifflaw02_ScanCuts.u5.l k (fun y0 => K .ret (frameL [(4, .bool y0)])) (K (.exit 0) (frameL [])) j x0 x1 x2 x3
  | 0, _, _, _, _ => rfl
  | j + 1, x0, x1, x2, x3 => by
      have h := bailifflaw02_ScanCuts.u4.ok k x0 x1 x2 x3 (seqK (fun ρ => evLoop (evC T (env k) k bailifflaw02_ScanCuts.u4.c) [6, 8, 10, 12] j ρ K) K)
      simp only [seqK_exit, seqK_ret, seqK_pan, seqK_normal, bailifflaw02_ScanCuts.u5.okl k K j] at h
      exact (evLoop_step (by kernel_rfl) h).trans (bailifflaw02_ScanCuts.u5.ls k (fun y0 => K .ret (frameL [(4, .bool y0)])) (K (.exit 0) (frameL [])) j x0 x1 x2 x3).symm
theorem bailifflaw02_ScanCuts.u5.ok {α : Type} (k : Nat) (x0 : Sl) (x1 : Int) (x2 : Sl) (x3 : Int) (K : Ex → Frame → M α) :
    evC T (env k) k bailifflaw02_ScanCuts.u5.c (frameL [(6, .slice x0), (8, .int .i64 x1), (10, .slice x2), (12, .int .i64 x3)]) K =
      bailifflaw02_ScanCuts.u5.f k x0 x1 x2 x3 (fun y0 => K .ret (frameL [(4, .bool y0)])) (K (.exit 0) (frameL [])) :=
  evC_loop.trans <| (evLoop_keep (body := evC T (env k) k bailifflaw02_ScanCuts.u4.c) (keep := [6, 8, 10, 12]) (ρ := (frameL [(6, .slice x0), (8, .int .i64 x1), (10, .slice x2), (12, .int .i64 x3)])) (ρ' := (frameL [(6, .slice x0), (8, .int .i64 x1), (10, .slice x2), (12, .int .i64 x3)])) (by kernel_rfl) k K).trans (bailifflaw02_ScanCuts.u5.okl k K k x0 x1 x2 x3)
theorem bailifflaw02_ScanCuts.u6.ok {α : Type} (k : Nat) (x0 : Sl) (x1 : Int) (x2 : Sl) (x3 : Int) (K : Ex → Frame → M α) :
    evC T (env k) k bailifflaw02_ScanCuts.u6.c (frameL [(6, .slice x0), (8, .int .i64 x1), (10, .slice x2), (12, .int .i64 x3)]) K =
      bailifflaw02_ScanCuts.u6.f k x0 x1 x2 x3 (K .normal (frameL [])) (fun y0 => K .ret (frameL [(4, .bool y0)])) :=
  (evC_block.trans (bailifflaw02_ScanCuts.u5.ok k x0 x1 x2 x3 (blockK 0 K))).trans (by kernel_rfl)
theorem bailifflaw02_ScanCuts.u7.ok {α : Type} (k : Nat) (x0 : Sl) (x1 : Int) (x2 : Sl) (K : Ex → Frame → M α) :
    evC T (env k) k bailifflaw02_ScanCuts.u7.c (frameL [(6, .slice x0), (8, .int .i64 x1), (10, .slice x2)]) K =
      bailifflaw02_ScanCuts.u7.f k x0 x1 x2 (K .normal (frameL [])) (fun y0 => K .ret (frameL [(4, .bool y0)])) :=
  (bailifflaw02_ScanCuts.u3.ok k x0 x1 x2 bailifflaw02_ScanCuts.u6.c K).trans
    (congrArg (fun z => bailifflaw02_ScanCuts.u3.f k x0 x1 x2 z) (funext fun y0 => (funext fun y1 => (funext fun y2 => (funext fun y3 => bailifflaw02_ScanCuts.u6.ok k y0 y1 y2 y3 K)))))
theorem bailifflaw02_ScanCuts.u8.ok {α : Type} (k : Nat) (K : Ex → Frame → M α) :
    evC T (env k) k bailifflaw02_ScanCuts.u8.c (frameL []) K =
      bailifflaw02_ScanCuts.u8.f k (fun y0 => K .ret (frameL [(4, .bool y0)])) := by kernel_rfl
theorem bailifflaw02_ScanCuts.u9.ok {α : Type} (k : Nat) (x0 : Sl) (x1 : Int) (x2 : Sl) (K : Ex → Frame → M α) :
    evC T (env k) k bailifflaw02_ScanCuts.u9.c (frameL [(6, .slice x0), (8, .int .i64 x1), (10, .slice x2)]) K =
      bailifflaw02_ScanCuts.u9.f k x0 x1 x2 (fun y0 => K .ret (frameL [(4, .bool y0)])) :=
  by
    have h := bailifflaw02_ScanCuts.u7.ok k x0 x1 x2 (seqK (fun ρ => evC T (env k) k bailifflaw02_ScanCuts.u8.c ρ K) K)
    simp only [seqK_normal, seqK_exit, seqK_ret, seqK_pan, bailifflaw02_ScanCuts.u8.ok] at h
    exact evC_seq_of h
theorem bailifflaw02_ScanCuts.u10.ok {α : Type} (k : Nat) (x0 : List UInt8) (x1 : Int) (x2 : Sl) (K : Ex → Frame → M α) :
    evC T (env k) k bailifflaw02_ScanCuts.u10.c (frameL [(0, .str x0), (1, .int .i64 x1), (6, .slice x2)]) K =
      bailifflaw02_ScanCuts.u10.f k x0 x1 x2 (fun y0 => K .ret (frameL [(4, .bool y0)])) :=
  (bailifflaw02_ScanCuts.u2.ok k x0 x1 x2 bailifflaw02_ScanCuts.u9.c K).trans
    (congrArg (fun z => bailifflaw02_ScanCuts.u2.f k x0 x1 x2 z (fun y0 => K .ret (frameL [(4, .bool y0)]))) (funext fun y0 => (funext fun y1 => (funext fun y2 => bailifflaw02_ScanCuts.u9.ok k y0 y1 y2 K))))
theorem bailifflaw02_ScanCuts.u11.ok {α : Type} (k : Nat) (x0 : List UInt8) (x1 : Int) (K : Ex → Frame → M α) :
    evC T (env k) k bailifflaw02_ScanCuts.u11.c (frameL [(0, .str x0), (1, .int .i64 x1)]) K =
      bailifflaw02_ScanCuts.u11.f k x0 x1 (fun y0 => K .ret (frameL [(4, .bool y0)])) :=
  (bailifflaw02_ScanCuts.u1.ok k x0 x1 bailifflaw02_ScanCuts.u10.c K).trans
    (congrArg (fun z => bailifflaw02_ScanCuts.u1.f k x0 x1 z (fun y0 => K .ret (frameL [(4, .bool y0)]))) (funext fun y0 => (funext fun y1 => (funext fun y2 => bailifflaw02_ScanCuts.u10.ok k y0 y1 y2 K))))
theorem bailifflaw02_ScanCuts.ok {α : Type} (k : Nat) (x0 : List UInt8) (x1 : Int) (κ : Res → M α) :
    evF T (env k) k bailifflaw02_ScanCuts.c bailifflaw02_ScanCuts.res [.str x0, .int .i64 x1] κ = bailifflaw02_ScanCuts.f (k + 1) x0 x1 (fun o0 => κ (.ret (.bool o0))) :=
  (bailifflaw02_ScanCuts.u11.ok k x0 x1 (retK T bailifflaw02_ScanCuts.res κ)).trans (by kernel_rfl)
theorem bailifflaw02_ScanCuts.code : bailifflaw02_ScanCuts.c.code = bodyOf Tryd.f9 := by kernel_rfl
end Go.Ab.S2
