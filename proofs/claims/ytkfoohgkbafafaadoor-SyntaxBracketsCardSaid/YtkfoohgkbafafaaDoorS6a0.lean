import Derived.Test.YtkfoohgkbafafaaDoorAb19
import Derived.Test.YtkfoohgkbafafaaDoorAb24
import Derived.Test.YtkfoohgkbafafaaDoorProg
import Derived.KernelRfl
namespace Go.Ab.S6
section
variable {α : Type}
open Go.Proofs
set_option linter.unusedVariables false
set_option linter.unusedSimpArgs false
def opAt (f : Func) (id i : Nat) : Oper := (opsOf f id).getD i default
noncomputable def bytealg_IndexByteString.f : Nat → List UInt8 → Int → (Int → M α) → M α
  | 0, _, _, _ => fail
  | _ + 1, s, c, ret => ret (indexByte s c)
noncomputable def builder_copyCheck.f : Nat → Ad → M α → M α
  | 0, _, _ => fail
  | _ + 1, b, ret => copyCheckF 42 b ret
noncomputable def builder_String.f : Nat → Ad → (List UInt8 → M α) → M α
  | 0, _, _ => fail
  | _ + 1, b, ret => stringF 42 5 b ret
noncomputable def stringslite_IndexByte.u1.f (k : Nat) (x0 : List UInt8) (x1 : Int) (kr : Int → M α) : M α :=
  bytealg_IndexByteString.f k x0 x1 fun r4 =>
  kr r4
noncomputable def stringslite_IndexByte.u1.c : IC := (.seq (.ops 0 (opsOf Tryd.f43 0)) (.seq (.ops 1 (opsOf Tryd.f43 1)) (.ret [4])))
noncomputable def stringslite_IndexByte.f : Nat → List UInt8 → Int → (Int → M α) → M α
  | 0, _, _, _ => fail
  | k + 1, x0, x1, ret =>
    stringslite_IndexByte.u1.f k x0 x1 (fun y0 =>
      ret y0)
noncomputable def strings_IndexByte.u1.f (k : Nat) (x0 : List UInt8) (x1 : Int) (kr : Int → M α) : M α :=
  stringslite_IndexByte.f k x0 x1 fun r4 =>
  kr r4
noncomputable def strings_IndexByte.u1.c : IC := (.seq (.ops 0 (opsOf Tryd.f30 0)) (.seq (.ops 1 (opsOf Tryd.f30 1)) (.ret [4])))
noncomputable def strings_IndexByte.f : Nat → List UInt8 → Int → (Int → M α) → M α
  | 0, _, _, _ => fail
  | k + 1, x0, x1, ret =>
    strings_IndexByte.u1.f k x0 x1 (fun y0 =>
      ret y0)
noncomputable def scan_kind.u1.f (k : Nat) (x0 : Int) (kr : Int → M α) : M α :=
  cond (decide (x0 = 10)) (
    kr 1) (
    cond (decide (97 ≤ x0)) (
      cond (decide (x0 ≤ 122)) (
        kr 2) (
        cond (decide (65 ≤ x0)) (
          cond (decide (x0 ≤ 90)) (
            kr 3) (
            cond (decide (48 ≤ x0)) (
              cond (decide (x0 ≤ 57)) (
                kr 4) (
                cond (decide (32 < x0)) (
                  cond (decide (x0 < 127)) (
                    cond (!(decide (x0 = 95))) (
                      kr 5) (
                      kr 0)) (
                    kr 0)) (
                  kr 0))) (
              cond (decide (32 < x0)) (
                cond (decide (x0 < 127)) (
                  cond (!(decide (x0 = 95))) (
                    kr 5) (
                    kr 0)) (
                  kr 0)) (
                kr 0)))) (
          cond (decide (48 ≤ x0)) (
            cond (decide (x0 ≤ 57)) (
              kr 4) (
              cond (decide (32 < x0)) (
                cond (decide (x0 < 127)) (
                  cond (!(decide (x0 = 95))) (
                    kr 5) (
                    kr 0)) (
                  kr 0)) (
                kr 0))) (
            cond (decide (32 < x0)) (
              cond (decide (x0 < 127)) (
                cond (!(decide (x0 = 95))) (
                  kr 5) (
                  kr 0)) (
                kr 0)) (
              kr 0))))) (
      cond (decide (65 ≤ x0)) (
        cond (decide (x0 ≤ 90)) (
          kr 3) (
          cond (decide (48 ≤ x0)) (
            cond (decide (x0 ≤ 57)) (
              kr 4) (
              cond (decide (32 < x0)) (
                cond (decide (x0 < 127)) (
                  cond (!(decide (x0 = 95))) (
                    kr 5) (
                    kr 0)) (
                  kr 0)) (
                kr 0))) (
            cond (decide (32 < x0)) (
              cond (decide (x0 < 127)) (
                cond (!(decide (x0 = 95))) (
                  kr 5) (
                  kr 0)) (
                kr 0)) (
              kr 0)))) (
        cond (decide (48 ≤ x0)) (
          cond (decide (x0 ≤ 57)) (
            kr 4) (
            cond (decide (32 < x0)) (
              cond (decide (x0 < 127)) (
                cond (!(decide (x0 = 95))) (
                  kr 5) (
                  kr 0)) (
                kr 0)) (
              kr 0))) (
          cond (decide (32 < x0)) (
            cond (decide (x0 < 127)) (
              cond (!(decide (x0 = 95))) (
                kr 5) (
                kr 0)) (
              kr 0)) (
            kr 0)))))
noncomputable def scan_kind.u1.c : IC := (.seq (.ops 0 (opsOf Tryd.f44 0)) (.seq (.block 0 (.seq (.ops 1 (opsOf Tryd.f44 1)) (.cond (.tmp 3) (.seq (.ops 2 (opsOf Tryd.f44 2)) (.ret [2])) (.seq (.ops 3 (opsOf Tryd.f44 3)) (.cond (.tmp 6) (.seq (.ops 4 (opsOf Tryd.f44 4)) (.ret [2])) (.seq (.ops 5 (opsOf Tryd.f44 5)) (.cond (.tmp 13) (.seq (.ops 6 (opsOf Tryd.f44 6)) (.ret [2])) (.seq (.ops 7 (opsOf Tryd.f44 7)) (.cond (.tmp 20) (.seq (.ops 8 (opsOf Tryd.f44 8)) (.ret [2])) (.seq (.ops 9 (opsOf Tryd.f44 9)) (.cond (.tmp 27) (.seq (.ops 10 (opsOf Tryd.f44 10)) (.ret [2])) .skip))))))))))) (.seq (.ops 11 (opsOf Tryd.f44 11)) (.ret [2]))))
noncomputable def scan_kind.f : Nat → Int → (Int → M α) → M α
  | 0, _, _ => fail
  | k + 1, x0, ret =>
    scan_kind.u1.f k x0 (fun y0 =>
      ret y0)
noncomputable def scan_long.u1.f (k : Nat) (x0 : Int) (x1 : List UInt8) (kn : Int → List UInt8 → Int → M α) : M α :=
  kn x0 x1 1
noncomputable def scan_long.u1.c (R : IC) : IC := (.seq (.ops 0 (opsOf Tryd.f45 0)) (.seq (.cut [0, 1, 5] (.ops 1 (opsOf Tryd.f45 1))) R))
noncomputable def scan_long.u2.f (k : Nat) (x0 : Int) (x1 : List UInt8) (x2 : Int) (kn : List UInt8 → Int → Int → M α) : M α :=
  kn x1 x2 x0
noncomputable def scan_long.u2.c (R : IC) : IC := (.seq (.cut [1, 5, 6] (.ops 2 (opsOf Tryd.f45 2))) R)
noncomputable def scan_long.u3.f (k : Nat) (x0 : List UInt8) (x1 : Int) (x2 : Int) (kn : List UInt8 → Int → Int → Bool → M α) : M α :=
  kn x0 x1 x2 (decide (x2 = 4))
noncomputable def scan_long.u3.c (R : IC) : IC := (.seq (.cut [1, 5, 6, 7] (.ops 3 (opsOf Tryd.f45 3))) R)
noncomputable def scan_long.u4.f (k : Nat) (x0 : List UInt8) (x1 : Int) (kn : List UInt8 → Int → M α) (kx1 : Int → M α) : M α :=
  cond (decide (x1 < (x0.length : Int))) (
    idxStr x0 x1 fun c4 =>
    cond (decide (48 ≤ c4)) (
      idxStr x0 x1 fun c5 =>
      cond (decide (c5 ≤ 57)) (
        kn x0 (w64 (x1 + 1))) (
        kx1 x1)) (
      kx1 x1)) (
    kx1 x1)
noncomputable def scan_long.u4.c : IC := (.seq (.seq (.ops 4 (opsOf Tryd.f45 4)) (.cond (.tmp 24) .skip (.exit 1 [5]))) (.cut [1, 5] (.block 2 (.ops 5 (opsOf Tryd.f45 5)))))
noncomputable def scan_long.u5.l (k : Nat) (kx1 : Int → M α) : Nat → List UInt8 → Int → M α
  | 0, _, _ => fail
  | j + 1, x0, x1 =>
    scan_long.u4.f k x0 x1 (fun y0 y1 => scan_long.u5.l k kx1 j y0 y1) kx1
noncomputable abbrev scan_long.u5.f (k : Nat) (x0 : List UInt8) (x1 : Int) (x2 : Int) (x3 : Bool) (kx1 : Int → M α) : M α :=
  scan_long.u5.l k kx1 k x0 x1
noncomputable def scan_long.u5.c : IC := .loop [1, 5] scan_long.u4.c
noncomputable abbrev scan_long.u6.f (k : Nat) (x0 : List UInt8) (x1 : Int) (x2 : Int) (x3 : Bool) (kn : Int → M α) : M α :=
  scan_long.u5.f k x0 x1 x2 x3 (fun y0 => kn y0)
noncomputable def scan_long.u6.c : IC := .block 1 scan_long.u5.c
noncomputable def scan_long.u7.f (k : Nat) (x0 : List UInt8) (x1 : Int) (x2 : Int) (x3 : Bool) (kn : List UInt8 → Int → Bool → M α) : M α :=
  cond (decide (x2 = 2)) (
    kn x0 x1 (decide (x2 = 2))) (
    kn x0 x1 (decide (x2 = 3)))
noncomputable def scan_long.u7.c (R : IC) : IC := (.seq (.cut [1, 5, 27] (.seq (.ops 6 (opsOf Tryd.f45 6)) (.cond (.tmp 27) .skip (.ops 7 (opsOf Tryd.f45 7))))) R)
noncomputable def scan_long.u8.f (k : Nat) (x0 : List UInt8) (x1 : Int) (kn : List UInt8 → Int → M α) (kx3 : Int → M α) : M α :=
  cond (decide (x1 < (x0.length : Int))) (
    idxStr x0 x1 fun c4 =>
    cond (decide (c4 = 95)) (
      kn x0 (w64 (x1 + 1))) (
      idxStr x0 x1 fun c5 =>
      cond (decide (97 ≤ c5)) (
        idxStr x0 x1 fun c6 =>
        cond (decide (c6 ≤ 122)) (
          kn x0 (w64 (x1 + 1))) (
          idxStr x0 x1 fun c7 =>
          cond (decide (65 ≤ c7)) (
            idxStr x0 x1 fun c8 =>
            cond (decide (c8 ≤ 90)) (
              kn x0 (w64 (x1 + 1))) (
              idxStr x0 x1 fun c9 =>
              cond (decide (48 ≤ c9)) (
                idxStr x0 x1 fun c10 =>
                cond (decide (c10 ≤ 57)) (
                  kn x0 (w64 (x1 + 1))) (
                  kx3 x1)) (
                kx3 x1))) (
            idxStr x0 x1 fun c11 =>
            cond (decide (48 ≤ c11)) (
              idxStr x0 x1 fun c12 =>
              cond (decide (c12 ≤ 57)) (
                kn x0 (w64 (x1 + 1))) (
                kx3 x1)) (
              kx3 x1)))) (
        idxStr x0 x1 fun c13 =>
        cond (decide (65 ≤ c13)) (
          idxStr x0 x1 fun c14 =>
          cond (decide (c14 ≤ 90)) (
            kn x0 (w64 (x1 + 1))) (
            idxStr x0 x1 fun c15 =>
            cond (decide (48 ≤ c15)) (
              idxStr x0 x1 fun c16 =>
              cond (decide (c16 ≤ 57)) (
                kn x0 (w64 (x1 + 1))) (
                kx3 x1)) (
              kx3 x1))) (
          idxStr x0 x1 fun c17 =>
          cond (decide (48 ≤ c17)) (
            idxStr x0 x1 fun c18 =>
            cond (decide (c18 ≤ 57)) (
              kn x0 (w64 (x1 + 1))) (
              kx3 x1)) (
            kx3 x1))))) (
    kx3 x1)
noncomputable def scan_long.u8.c : IC := (.seq (.seq (.ops 8 (opsOf Tryd.f45 8)) (.cond (.tmp 75) .skip (.exit 3 [5]))) (.cut [1, 5] (.block 4 (.ops 9 (opsOf Tryd.f45 9)))))
noncomputable def scan_long.u9.l (k : Nat) (kx3 : Int → M α) : Nat → List UInt8 → Int → M α
  | 0, _, _ => fail
  | j + 1, x0, x1 =>
    scan_long.u8.f k x0 x1 (fun y0 y1 => scan_long.u9.l k kx3 j y0 y1) kx3
noncomputable abbrev scan_long.u9.f (k : Nat) (x0 : List UInt8) (x1 : Int) (x2 : Bool) (kx3 : Int → M α) : M α :=
  scan_long.u9.l k kx3 k x0 x1
noncomputable def scan_long.u9.c : IC := .loop [1, 5] scan_long.u8.c
noncomputable abbrev scan_long.u10.f (k : Nat) (x0 : List UInt8) (x1 : Int) (x2 : Bool) (kn : Int → M α) : M α :=
  scan_long.u9.f k x0 x1 x2 (fun y0 => kn y0)
noncomputable def scan_long.u10.c : IC := .block 3 scan_long.u9.c
noncomputable def scan_long.u11.f (k : Nat) (x0 : List UInt8) (x1 : Int) (x2 : Bool) (kn : Int → M α) : M α :=
  kn x1
noncomputable def scan_long.u11.c : IC := (.cut [5] .skip)
noncomputable abbrev scan_long.u12.f (k : Nat) (x0 : List UInt8) (x1 : Int) (x2 : Bool) (kn : Int → M α) : M α :=
  cond x2 (
    scan_long.u10.f k x0 x1 x2 kn) (
    scan_long.u11.f k x0 x1 x2 kn)
noncomputable def scan_long.u12.c : IC := .cond (.tmp 27) scan_long.u10.c scan_long.u11.c
noncomputable abbrev scan_long.u13.f (k : Nat) (x0 : List UInt8) (x1 : Int) (x2 : Int) (x3 : Bool) (kn : Int → M α) : M α :=
  scan_long.u7.f k x0 x1 x2 x3 (fun y0 y1 y2 => scan_long.u12.f k y0 y1 y2 kn)
noncomputable def scan_long.u13.c : IC := scan_long.u7.c scan_long.u12.c
noncomputable abbrev scan_long.u14.f (k : Nat) (x0 : List UInt8) (x1 : Int) (x2 : Int) (x3 : Bool) (kn : Int → M α) : M α :=
  cond x3 (
    scan_long.u6.f k x0 x1 x2 x3 kn) (
    scan_long.u13.f k x0 x1 x2 x3 kn)
noncomputable def scan_long.u14.c : IC := .cond (.tmp 7) scan_long.u6.c scan_long.u13.c
noncomputable abbrev scan_long.u15.f (k : Nat) (x0 : List UInt8) (x1 : Int) (x2 : Int) (kn : Int → M α) : M α :=
  scan_long.u3.f k x0 x1 x2 (fun y0 y1 y2 y3 => scan_long.u14.f k y0 y1 y2 y3 kn)
noncomputable def scan_long.u15.c : IC := scan_long.u3.c scan_long.u14.c
noncomputable abbrev scan_long.u16.f (k : Nat) (x0 : List UInt8) (x1 : Int) (x2 : Int) (kn : Int → M α) : M α :=
  scan_long.u15.f k x0 x1 x2 (fun y0 => kn y0)
noncomputable def scan_long.u16.c : IC := .block 0 scan_long.u15.c
noncomputable abbrev scan_long.u17.f (k : Nat) (x0 : Int) (x1 : List UInt8) (x2 : Int) (kn : Int → M α) : M α :=
  scan_long.u2.f k x0 x1 x2 (fun y0 y1 y2 => scan_long.u16.f k y0 y1 y2 kn)
noncomputable def scan_long.u17.c : IC := scan_long.u2.c scan_long.u16.c
noncomputable def scan_long.u18.f (k : Nat) (x0 : Int) (kr : Int → M α) : M α :=
  kr x0
noncomputable def scan_long.u18.c : IC := (.seq (.ops 10 (opsOf Tryd.f45 10)) (.ret [4]))
noncomputable abbrev scan_long.u19.f (k : Nat) (x0 : Int) (x1 : List UInt8) (x2 : Int) (kr : Int → M α) : M α :=
  scan_long.u17.f k x0 x1 x2 (fun y0 => scan_long.u18.f k y0 kr)
noncomputable def scan_long.u19.c : IC := (.seq scan_long.u17.c scan_long.u18.c)
noncomputable abbrev scan_long.u20.f (k : Nat) (x0 : Int) (x1 : List UInt8) (kr : Int → M α) : M α :=
  scan_long.u1.f k x0 x1 (fun y0 y1 y2 => scan_long.u19.f k y0 y1 y2 kr)
noncomputable def scan_long.u20.c : IC := scan_long.u1.c scan_long.u19.c
noncomputable def scan_long.f : Nat → Int → List UInt8 → (Int → M α) → M α
  | 0, _, _, _ => fail
  | k + 1, x0, x1, ret =>
    scan_long.u20.f k x0 x1 (fun y0 =>
      ret y0)
noncomputable def scan_value.u1.f (k : Nat) (x0 : List UInt8) (kn : List UInt8 → M α) (kr : Int → Bool → M α) : M α :=
  cond (decide (4 < (x0.length : Int))) (
    kr 0 false) (
    cond (decide (1 < (x0.length : Int))) (
      idxStr x0 0 fun c3 =>
      cond (decide (c3 = 48)) (
        kr 0 false) (
        kn x0)) (
      kn x0))
noncomputable def scan_value.u1.c (R : IC) : IC := (.seq (.ops 0 (opsOf Tryd.f46 0)) (.seq (.cut [0] (.seq (.ops 1 (opsOf Tryd.f46 1)) (.cond (.tmp 18) (.seq (.ops 2 (opsOf Tryd.f46 2)) (.ret [2, 3])) .skip))) R))
noncomputable def scan_value.u2.f (k : Nat) (x0 : List UInt8) (kn : List UInt8 → Int → M α) : M α :=
  kn x0 0
noncomputable def scan_value.u2.c (R : IC) : IC := (.seq (.cut [0, 4] (.ops 3 (opsOf Tryd.f46 3))) R)
noncomputable def scan_value.u3.f (k : Nat) (x0 : List UInt8) (x1 : Int) (kn : List UInt8 → Int → Int → Int → M α) : M α :=
  kn x0 x1 (x0.length : Int) 0
noncomputable def scan_value.u3.c (R : IC) : IC := (.seq (.cut [0, 4, 20, 21] (.ops 4 (opsOf Tryd.f46 4))) R)
noncomputable def scan_value.u4.f (k : Nat) (x0 : List UInt8) (x1 : Int) (x2 : Int) (x3 : Int) (kn : List UInt8 → Int → Int → Int → M α) (kx0 : Int → M α) : M α :=
  cond (decide (x3 < x2)) (
    idxStr x0 x3 fun c6 =>
    kn x0 (w64 ((w64 (10 * x1)) + (w64 (IntKind.wrap .u8 (c6 - 48))))) x2 (w64 (x3 + 1))) (
    kx0 x1)
noncomputable def scan_value.u4.c : IC := (.seq (.ops 5 (opsOf Tryd.f46 5)) (.seq (.cond (.tmp 22) .skip (.exit 0 [4])) (.seq (.block 1 (.seq (.ops 6 (opsOf Tryd.f46 6)) (.ops 7 (opsOf Tryd.f46 7)))) (.cut [0, 4, 20, 21] (.ops 8 (opsOf Tryd.f46 8))))))
noncomputable def scan_value.u5.l (k : Nat) (kx0 : Int → M α) : Nat → List UInt8 → Int → Int → Int → M α
  | 0, _, _, _, _ => fail
  | j + 1, x0, x1, x2, x3 =>
    scan_value.u4.f k x0 x1 x2 x3 (fun y0 y1 y2 y3 => scan_value.u5.l k kx0 j y0 y1 y2 y3) kx0
noncomputable abbrev scan_value.u5.f (k : Nat) (x0 : List UInt8) (x1 : Int) (x2 : Int) (x3 : Int) (kx0 : Int → M α) : M α :=
  scan_value.u5.l k kx0 k x0 x1 x2 x3
noncomputable def scan_value.u5.c : IC := .loop [0, 4, 20, 21] scan_value.u4.c
noncomputable abbrev scan_value.u6.f (k : Nat) (x0 : List UInt8) (x1 : Int) (x2 : Int) (x3 : Int) (kn : Int → M α) : M α :=
  scan_value.u5.f k x0 x1 x2 x3 (fun y0 => kn y0)
noncomputable def scan_value.u6.c : IC := .block 0 scan_value.u5.c
noncomputable abbrev scan_value.u7.f (k : Nat) (x0 : List UInt8) (x1 : Int) (kn : Int → M α) : M α :=
  scan_value.u3.f k x0 x1 (fun y0 y1 y2 y3 => scan_value.u6.f k y0 y1 y2 y3 kn)
noncomputable def scan_value.u7.c : IC := scan_value.u3.c scan_value.u6.c
noncomputable def scan_value.u8.f (k : Nat) (x0 : Int) (kr : Int → Bool → M α) : M α :=
  kr x0 (decide (x0 ≤ 9999))
noncomputable def scan_value.u8.c : IC := (.seq (.ops 9 (opsOf Tryd.f46 9)) (.ret [2, 3]))
noncomputable abbrev scan_value.u9.f (k : Nat) (x0 : List UInt8) (x1 : Int) (kr : Int → Bool → M α) : M α :=
  scan_value.u7.f k x0 x1 (fun y0 => scan_value.u8.f k y0 kr)
noncomputable def scan_value.u9.c : IC := (.seq scan_value.u7.c scan_value.u8.c)
noncomputable abbrev scan_value.u10.f (k : Nat) (x0 : List UInt8) (kr : Int → Bool → M α) : M α :=
  scan_value.u2.f k x0 (fun y0 y1 => scan_value.u9.f k y0 y1 kr)
noncomputable def scan_value.u10.c : IC := scan_value.u2.c scan_value.u9.c
noncomputable abbrev scan_value.u11.f (k : Nat) (x0 : List UInt8) (kr : Int → Bool → M α) : M α :=
  scan_value.u1.f k x0 (fun y0 => scan_value.u10.f k y0 kr) kr
noncomputable def scan_value.u11.c : IC := scan_value.u1.c scan_value.u10.c
noncomputable def scan_value.f : Nat → List UInt8 → (Int → Bool → M α) → M α
  | 0, _, _ => fail
  | k + 1, x0, ret =>
    scan_value.u11.f k x0 (fun y0 y1 =>
      ret y0 y1)
noncomputable def scan_token.u1.f (k : Nat) (x0 : List UInt8) (x1 : Int) (kr : Ad → Int → M α) : M α :=
  new [.int .i64 0, .int .i64 0, .str [], .int .i64 0] fun x4 =>
  idxStr x0 x1 fun c5 =>
  scan_kind.f k c5 fun r6 =>
  new [.int .i64 0, .int .i64 0, .str [], .int .i64 0] fun t7 =>
  st1 (t7.add 0) (.int .i64 r6) <|
  st1 (t7.add 1) (.int .i64 x1) <|
  st1 (t7.add 2) (.str []) <|
  st1 (t7.add 3) (.int .i64 0) <|
  ldI .i64 ((t7.add 0).add 0) fun x8 =>
  cutStr x0 (some x1) none fun x9 =>
  scan_long.f k x8 x9 fun r10 =>
  cutStr x0 (some x1) (some (w64 (x1 + r10))) fun x11 =>
  st1 ((t7.add 2).add 0) (.str x11) <|
  ldI .i64 ((t7.add 0).add 0) fun x12 =>
  cond (decide (x12 = 0)) (
    ldI .i64 (t7.add 0) fun x13 =>
    ldI .i64 (t7.add 1) fun x14 =>
    ldStr (t7.add 2) fun x15 =>
    ldI .i64 (t7.add 3) fun x16 =>
    st1 (x4.add 0) (.int .i64 x13) <|
    st1 (x4.add 1) (.int .i64 x14) <|
    st1 (x4.add 2) (.str x15) <|
    st1 (x4.add 3) (.int .i64 x16) <|
    kr x4 3) (
    cond (decide (x12 = 2)) (
      cond (decide (x12 = 2)) (
        ldStr ((t7.add 2).add 0) fun x17 =>
        cond (decide (8 < (x17.length : Int))) (
          ldI .i64 (t7.add 0) fun x18 =>
          ldI .i64 (t7.add 1) fun x19 =>
          ldStr (t7.add 2) fun x20 =>
          ldI .i64 (t7.add 3) fun x21 =>
          st1 (x4.add 0) (.int .i64 x18) <|
          st1 (x4.add 1) (.int .i64 x19) <|
          st1 (x4.add 2) (.str x20) <|
          st1 (x4.add 3) (.int .i64 x21) <|
          kr x4 5) (
          ldI .i64 (t7.add 0) fun x22 =>
          ldI .i64 (t7.add 1) fun x23 =>
          ldStr (t7.add 2) fun x24 =>
          ldI .i64 (t7.add 3) fun x25 =>
          st1 (x4.add 0) (.int .i64 x22) <|
          st1 (x4.add 1) (.int .i64 x23) <|
          st1 (x4.add 2) (.str x24) <|
          st1 (x4.add 3) (.int .i64 x25) <|
          kr x4 0)) (
        cond (decide (x12 = 4)) (
          ldStr ((t7.add 2).add 0) fun x26 =>
          scan_value.f k x26 fun r27 r28 =>
          cond (!r28) (
            ldI .i64 (t7.add 0) fun x29 =>
            ldI .i64 (t7.add 1) fun x30 =>
            ldStr (t7.add 2) fun x31 =>
            ldI .i64 (t7.add 3) fun x32 =>
            st1 (x4.add 0) (.int .i64 x29) <|
            st1 (x4.add 1) (.int .i64 x30) <|
            st1 (x4.add 2) (.str x31) <|
            st1 (x4.add 3) (.int .i64 x32) <|
            kr x4 4) (
            st1 ((t7.add 3).add 0) (.int .i64 r27) <|
            ldI .i64 (t7.add 0) fun x33 =>
            ldI .i64 (t7.add 1) fun x34 =>
            ldStr (t7.add 2) fun x35 =>
            ldI .i64 (t7.add 3) fun x36 =>
            st1 (x4.add 0) (.int .i64 x33) <|
            st1 (x4.add 1) (.int .i64 x34) <|
            st1 (x4.add 2) (.str x35) <|
            st1 (x4.add 3) (.int .i64 x36) <|
            kr x4 0)) (
          ldI .i64 (t7.add 0) fun x37 =>
          ldI .i64 (t7.add 1) fun x38 =>
          ldStr (t7.add 2) fun x39 =>
          ldI .i64 (t7.add 3) fun x40 =>
          st1 (x4.add 0) (.int .i64 x37) <|
          st1 (x4.add 1) (.int .i64 x38) <|
          st1 (x4.add 2) (.str x39) <|
          st1 (x4.add 3) (.int .i64 x40) <|
          kr x4 0))) (
      cond (decide (x12 = 3)) (
        ldStr ((t7.add 2).add 0) fun x41 =>
        cond (decide (8 < (x41.length : Int))) (
          ldI .i64 (t7.add 0) fun x42 =>
          ldI .i64 (t7.add 1) fun x43 =>
          ldStr (t7.add 2) fun x44 =>
          ldI .i64 (t7.add 3) fun x45 =>
          st1 (x4.add 0) (.int .i64 x42) <|
          st1 (x4.add 1) (.int .i64 x43) <|
          st1 (x4.add 2) (.str x44) <|
          st1 (x4.add 3) (.int .i64 x45) <|
          kr x4 5) (
          ldI .i64 (t7.add 0) fun x46 =>
          ldI .i64 (t7.add 1) fun x47 =>
          ldStr (t7.add 2) fun x48 =>
          ldI .i64 (t7.add 3) fun x49 =>
          st1 (x4.add 0) (.int .i64 x46) <|
          st1 (x4.add 1) (.int .i64 x47) <|
          st1 (x4.add 2) (.str x48) <|
          st1 (x4.add 3) (.int .i64 x49) <|
          kr x4 0)) (
        cond (decide (x12 = 4)) (
          ldStr ((t7.add 2).add 0) fun x50 =>
          scan_value.f k x50 fun r51 r52 =>
          cond (!r52) (
            ldI .i64 (t7.add 0) fun x53 =>
            ldI .i64 (t7.add 1) fun x54 =>
            ldStr (t7.add 2) fun x55 =>
            ldI .i64 (t7.add 3) fun x56 =>
            st1 (x4.add 0) (.int .i64 x53) <|
            st1 (x4.add 1) (.int .i64 x54) <|
            st1 (x4.add 2) (.str x55) <|
            st1 (x4.add 3) (.int .i64 x56) <|
            kr x4 4) (
            st1 ((t7.add 3).add 0) (.int .i64 r51) <|
            ldI .i64 (t7.add 0) fun x57 =>
            ldI .i64 (t7.add 1) fun x58 =>
            ldStr (t7.add 2) fun x59 =>
            ldI .i64 (t7.add 3) fun x60 =>
            st1 (x4.add 0) (.int .i64 x57) <|
            st1 (x4.add 1) (.int .i64 x58) <|
            st1 (x4.add 2) (.str x59) <|
            st1 (x4.add 3) (.int .i64 x60) <|
            kr x4 0)) (
          ldI .i64 (t7.add 0) fun x61 =>
          ldI .i64 (t7.add 1) fun x62 =>
          ldStr (t7.add 2) fun x63 =>
          ldI .i64 (t7.add 3) fun x64 =>
          st1 (x4.add 0) (.int .i64 x61) <|
          st1 (x4.add 1) (.int .i64 x62) <|
          st1 (x4.add 2) (.str x63) <|
          st1 (x4.add 3) (.int .i64 x64) <|
          kr x4 0))))
noncomputable def scan_token.u1.c : IC := (.seq (.ops 0 (opsOf Tryd.f31 0)) (.seq (.ops 1 (opsOf Tryd.f31 1)) (.seq (.drawn 2 (opsOf Tryd.f31 2) true [.op 0, .op 1, .op 2, .op 3, .op 4, .op 5, .op 6, .op 7, .op 8, .op 9, .op 10, .op 11, .op 12]) (.seq (.seq (.ops 3 (opsOf Tryd.f31 3)) (.block 0 (.seq (.ops 4 (opsOf Tryd.f31 4)) (.cond (.tmp 29) (.seq (.ops 5 (opsOf Tryd.f31 5)) (.ret [4, 5])) (.seq (.seq (.ops 6 (opsOf Tryd.f31 6)) (.cond (.tmp 32) .skip (.ops 7 (opsOf Tryd.f31 7)))) (.cond (.tmp 32) (.seq (.ops 8 (opsOf Tryd.f31 8)) (.cond (.tmp 38) (.seq (.ops 9 (opsOf Tryd.f31 9)) (.ret [4, 5])) .skip)) (.seq (.ops 10 (opsOf Tryd.f31 10)) (.cond (.tmp 40) (.seq (.ops 11 (opsOf Tryd.f31 11)) (.seq (.seq (.ops 12 (opsOf Tryd.f31 12)) (.cond (.tmp 49) (.seq (.ops 13 (opsOf Tryd.f31 13)) (.ret [4, 5])) .skip)) (.ops 14 (opsOf Tryd.f31 14)))) .skip)))))))) (.seq (.ops 15 (opsOf Tryd.f31 15)) (.ret [4, 5]))))))
noncomputable def scan_token.f : Nat → List UInt8 → Int → (Int → Int → List UInt8 → Int → Int → M α) → M α
  | 0, _, _, _ => fail
  | k + 1, x0, x1, ret =>
    scan_token.u1.f k x0 x1 (fun y0 y1 =>
      ldI .i64 (y0.add 0) fun o501 =>
      ldI .i64 (y0.add 1) fun o502 =>
      ldStr (y0.add 2) fun o503 =>
      ldI .i64 (y0.add 3) fun o504 =>
      ret o501 o502 o503 o504 y1)
noncomputable def scan_All.u1.f (k : Nat) (x0 : List UInt8) (kn : List UInt8 → Sl → M α) (kr : Sl → Ad → M α) : M α :=
  cond (decide (262144 < (x0.length : Int))) (
    new [.int .i64 262144, .int .i64 2] fun x3 =>
    kr Sl.nil x3) (
    kn x0 Sl.nil)
noncomputable def scan_All.u1.c (R : IC) : IC := (.seq (.ops 0 (opsOf Tryd.f18 0)) (.seq (.seq (.ops 1 (opsOf Tryd.f18 1)) (.cond (.tmp 12) (.seq (.ops 2 (opsOf Tryd.f18 2)) (.ret [2, 3])) .skip)) (.seq (.cut [0, 4] (.ops 3 (opsOf Tryd.f18 3))) R)))
noncomputable def scan_All.u2.f (k : Nat) (x0 : List UInt8) (x1 : Sl) (kn : List UInt8 → Sl → Int → M α) : M α :=
  kn x0 x1 0
noncomputable def scan_All.u2.c (R : IC) : IC := (.seq (.cut [0, 4, 5] (.ops 4 (opsOf Tryd.f18 4))) R)
noncomputable def scan_All.u3.f (k : Nat) (x0 : List UInt8) (x1 : Sl) (x2 : Int) (kn : List UInt8 → Sl → Int → M α) (kr : Sl → Ad → M α) (kx0 : List UInt8 → Sl → M α) : M α :=
  cond (decide (x2 < (x0.length : Int))) (
    idxStr x0 x2 fun c5 =>
    cond (decide (c5 = 32)) (
      kn x0 x1 (w64 (x2 + 1))) (
      cond (decide (c5 = 9)) (
        kn x0 x1 (w64 (x2 + 1))) (
        cond (decide (c5 = 35)) (
          cutStr x0 (some x2) none fun x6 =>
          strings_IndexByte.f k x6 10 fun r7 =>
          cond (decide (r7 < 0)) (
            kn x0 x1 (w64 (x2 + (w64 ((x0.length : Int) - x2))))) (
            kn x0 x1 (w64 (x2 + r7)))) (
          scan_token.f k x0 x2 fun r8 r9 r10 r11 r12 =>
          new [.int .i64 0, .int .i64 0, .str [], .int .i64 0] fun t13 =>
          st1 (t13.add 0) (.int .i64 r8) <|
          st1 (t13.add 1) (.int .i64 r9) <|
          st1 (t13.add 2) (.str r10) <|
          st1 (t13.add 3) (.int .i64 r11) <|
          cond (!(decide (r12 = 0))) (
            new [.int .i64 x2, .int .i64 r12] fun x14 =>
            kr Sl.nil x14) (
            ldI .i64 (t13.add 0) fun x15 =>
            ldI .i64 (t13.add 1) fun x16 =>
            ldStr (t13.add 2) fun x17 =>
            ldI .i64 (t13.add 3) fun x18 =>
            new [.int .i64 x15, .int .i64 x16, .str x17, .int .i64 x18] fun r19 =>
            appRow x1 4 40 (⟨some r19, 1, 1, none⟩ : Sl) fun x20 =>
            ldStr ((t13.add 2).add 0) fun x21 =>
            kn x0 x20 (w64 (x2 + (x21.length : Int)))))))) (
    kx0 x0 x1)
noncomputable def scan_All.u3.c : IC := (.seq (.seq (.ops 5 (opsOf Tryd.f18 5)) (.cond (.tmp 19) .skip (.exit 0 [0, 4]))) (.cut [0, 4, 5] (.block 1 (.seq (.ops 6 (opsOf Tryd.f18 6)) (.block 2 (.seq (.ops 12 (opsOf Tryd.f18 12)) (.cond (.tmp 45) (.ops 13 (opsOf Tryd.f18 13)) (.seq (.ops 14 (opsOf Tryd.f18 14)) (.cond (.tmp 54) (.seq (.ops 15 (opsOf Tryd.f18 15)) (.seq (.seq (.ops 16 (opsOf Tryd.f18 16)) (.cond (.tmp 62) (.ops 17 (opsOf Tryd.f18 17)) .skip)) (.ops 18 (opsOf Tryd.f18 18)))) (.seq (.ops 7 (opsOf Tryd.f18 7)) (.seq (.seq (.ops 8 (opsOf Tryd.f18 8)) (.cond (.tmp 30) (.seq (.ops 9 (opsOf Tryd.f18 9)) (.ret [2, 3])) .skip)) (.seq (.ops 10 (opsOf Tryd.f18 10)) (.ops 11 (opsOf Tryd.f18 11))))))))))))))
noncomputable def scan_All.u4.l (k : Nat) (kr : Sl → Ad → M α) (kx0 : List UInt8 → Sl → M α) : Nat → List UInt8 → Sl → Int → M α
  | 0, _, _, _ => fail
  | j + 1, x0, x1, x2 =>
    scan_All.u3.f k x0 x1 x2 (fun y0 y1 y2 => scan_All.u4.l k kr kx0 j y0 y1 y2) kr kx0
noncomputable abbrev scan_All.u4.f (k : Nat) (x0 : List UInt8) (x1 : Sl) (x2 : Int) (kr : Sl → Ad → M α) (kx0 : List UInt8 → Sl → M α) : M α :=
  scan_All.u4.l k kr kx0 k x0 x1 x2
noncomputable def scan_All.u4.c : IC := .loop [0, 4, 5] scan_All.u3.c
noncomputable abbrev scan_All.u5.f (k : Nat) (x0 : List UInt8) (x1 : Sl) (x2 : Int) (kn : List UInt8 → Sl → M α) (kr : Sl → Ad → M α) : M α :=
  scan_All.u4.f k x0 x1 x2 kr (fun y0 y1 => kn y0 y1)
noncomputable def scan_All.u5.c : IC := .block 0 scan_All.u4.c
noncomputable abbrev scan_All.u6.f (k : Nat) (x0 : List UInt8) (x1 : Sl) (kn : List UInt8 → Sl → M α) (kr : Sl → Ad → M α) : M α :=
  scan_All.u2.f k x0 x1 (fun y0 y1 y2 => scan_All.u5.f k y0 y1 y2 kn kr)
noncomputable def scan_All.u6.c : IC := scan_All.u2.c scan_All.u5.c
noncomputable def scan_All.u7.f (k : Nat) (x0 : List UInt8) (x1 : Sl) (kr : Sl → M α) : M α :=
  new [.int .i64 0, .int .i64 (x0.length : Int), .str [], .int .i64 0] fun r4 =>
  appRow x1 4 40 (⟨some r4, 1, 1, none⟩ : Sl) fun x5 =>
  kr x5
noncomputable def scan_All.u7.c : IC := (.seq (.ops 19 (opsOf Tryd.f18 19)) (.ret [2, 3]))
noncomputable abbrev scan_All.u8.f (k : Nat) (x0 : List UInt8) (x1 : Sl) (kr : Sl → V → M α) : M α :=
  scan_All.u6.f k x0 x1 (fun y0 y1 => scan_All.u7.f k y0 y1 (fun y0 => kr y0 .nilIface)) (fun y0 y1 => kr y0 (.iface 56 (.ptr (some y1))))
noncomputable def scan_All.u8.c : IC := (.seq scan_All.u6.c scan_All.u7.c)
noncomputable abbrev scan_All.u9.f (k : Nat) (x0 : List UInt8) (kr : Sl → V → M α) : M α :=
  scan_All.u1.f k x0 (fun y0 y1 => scan_All.u8.f k y0 y1 kr) (fun y0 y1 => kr y0 (.iface 56 (.ptr (some y1))))
noncomputable def scan_All.u9.c : IC := scan_All.u1.c scan_All.u8.c
noncomputable def scan_All.f : Nat → List UInt8 → (Sl → V → M α) → M α
  | 0, _, _ => fail
  | k + 1, x0, ret =>
    scan_All.u9.f k x0 (fun y0 y1 =>
      ret y0 y1)
noncomputable def syntax_Parse_c2.u1.f (k : Nat) (x0 : Int) (x1 : Int) (x2 : List UInt8) (x3 : Int) (kr : Bool → M α) : M α :=
  new [.int .i64 x0, .int .i64 x1, .str x2, .int .i64 x3] fun t6 =>
  ldI .i64 ((t6.add 0).add 0) fun x7 =>
  kr (decide (x7 = 1))
noncomputable def syntax_Parse_c2.u1.c : IC := (.seq (.ops 0 (opsOf Tryd.f21 0)) (.seq (.ops 1 (opsOf Tryd.f21 1)) (.ret [2])))
noncomputable def syntax_Parse_c2.f : Nat → Int → Int → List UInt8 → Int → (Bool → M α) → M α
  | 0, _, _, _, _, _ => fail
  | k + 1, x0, x1, x2, x3, ret =>
    syntax_Parse_c2.u1.f k x0 x1 x2 x3 (fun y0 =>
      ret y0)
noncomputable def slices_IndexFunc_Token_Token_21.u1.f (k : Nat) (x0 : Sl) (kn : Sl → M α) : M α :=
  kn x0
noncomputable def slices_IndexFunc_Token_Token_21.u1.c (R : IC) : IC := (.seq (.cut [0, 1] (.ops 0 (opsOf Tryd.f32 0))) R)
noncomputable def slices_IndexFunc_Token_Token_21.u2.f (k : Nat) (x0 : Sl) (kn : Sl → Int → Int → M α) : M α :=
  kn x0 (x0.len : Int) 0
noncomputable def slices_IndexFunc_Token_Token_21.u2.c (R : IC) : IC := (.seq (.cut [0, 1, 7, 8] (.ops 1 (opsOf Tryd.f32 1))) R)
noncomputable def slices_IndexFunc_Token_Token_21.u3.f (k : Nat) (x0 : Sl) (x1 : Int) (x2 : Int) (kn : Sl → Int → Int → M α) (kr : Int → M α) (kx0 : M α) : M α :=
  cond (decide (x2 < x1)) (
    idxSl x0 x2 4 fun a5 =>
    ldI .i64 (a5.add 0) fun x6 =>
    ldI .i64 (a5.add 1) fun x7 =>
    ldStr (a5.add 2) fun x8 =>
    ldI .i64 (a5.add 3) fun x9 =>
    syntax_Parse_c2.f k x6 x7 x8 x9 fun r10 =>
    cond (r10) (
      kr x2) (
      kn x0 x1 (w64 (x2 + 1)))) (
    kx0)
noncomputable def slices_IndexFunc_Token_Token_21.u3.c : IC := (.seq (.ops 2 (opsOf Tryd.f32 2)) (.seq (.cond (.tmp 9) .skip (.exit 0 [])) (.seq (.block 1 (.seq (.ops 3 (opsOf Tryd.f32 3)) (.seq (.ops 4 (opsOf Tryd.f32 4)) (.cond (.tmp 16) (.seq (.ops 5 (opsOf Tryd.f32 5)) (.ret [4])) .skip)))) (.cut [0, 1, 7, 8] (.ops 6 (opsOf Tryd.f32 6))))))
noncomputable def slices_IndexFunc_Token_Token_21.u4.l (k : Nat) (kr : Int → M α) (kx0 : M α) : Nat → Sl → Int → Int → M α
  | 0, _, _, _ => fail
  | j + 1, x0, x1, x2 =>
    slices_IndexFunc_Token_Token_21.u3.f k x0 x1 x2 (fun y0 y1 y2 => slices_IndexFunc_Token_Token_21.u4.l k kr kx0 j y0 y1 y2) kr kx0
noncomputable abbrev slices_IndexFunc_Token_Token_21.u4.f (k : Nat) (x0 : Sl) (x1 : Int) (x2 : Int) (kr : Int → M α) (kx0 : M α) : M α :=
  slices_IndexFunc_Token_Token_21.u4.l k kr kx0 k x0 x1 x2
noncomputable def slices_IndexFunc_Token_Token_21.u4.c : IC := .loop [0, 1, 7, 8] slices_IndexFunc_Token_Token_21.u3.c
noncomputable abbrev slices_IndexFunc_Token_Token_21.u5.f (k : Nat) (x0 : Sl) (x1 : Int) (x2 : Int) (kn : M α) (kr : Int → M α) : M α :=
  slices_IndexFunc_Token_Token_21.u4.f k x0 x1 x2 kr (kn)
noncomputable def slices_IndexFunc_Token_Token_21.u5.c : IC := .block 0 slices_IndexFunc_Token_Token_21.u4.c
noncomputable abbrev slices_IndexFunc_Token_Token_21.u6.f (k : Nat) (x0 : Sl) (kn : M α) (kr : Int → M α) : M α :=
  slices_IndexFunc_Token_Token_21.u2.f k x0 (fun y0 y1 y2 => slices_IndexFunc_Token_Token_21.u5.f k y0 y1 y2 kn kr)
noncomputable def slices_IndexFunc_Token_Token_21.u6.c : IC := slices_IndexFunc_Token_Token_21.u2.c slices_IndexFunc_Token_Token_21.u5.c
noncomputable def slices_IndexFunc_Token_Token_21.u7.f (k : Nat) (kr : Int → M α) : M α :=
  kr (-1)
noncomputable def slices_IndexFunc_Token_Token_21.u7.c : IC := (.seq (.ops 7 (opsOf Tryd.f32 7)) (.ret [4]))
noncomputable abbrev slices_IndexFunc_Token_Token_21.u8.f (k : Nat) (x0 : Sl) (kr : Int → M α) : M α :=
  slices_IndexFunc_Token_Token_21.u6.f k x0 (slices_IndexFunc_Token_Token_21.u7.f k kr) kr
noncomputable def slices_IndexFunc_Token_Token_21.u8.c : IC := (.seq slices_IndexFunc_Token_Token_21.u6.c slices_IndexFunc_Token_Token_21.u7.c)
noncomputable abbrev slices_IndexFunc_Token_Token_21.u9.f (k : Nat) (x0 : Sl) (kr : Int → M α) : M α :=
  slices_IndexFunc_Token_Token_21.u1.f k x0 (fun y0 => slices_IndexFunc_Token_Token_21.u8.f k y0 kr)
noncomputable def slices_IndexFunc_Token_Token_21.u9.c : IC := slices_IndexFunc_Token_Token_21.u1.c slices_IndexFunc_Token_Token_21.u8.c
noncomputable def slices_IndexFunc_Token_Token_21.f : Nat → Sl → (Int → M α) → M α
  | 0, _, _ => fail
  | k + 1, x0, ret =>
    slices_IndexFunc_Token_Token_21.u9.f k x0 (fun y0 =>
      ret y0)
noncomputable def slices_DeleteFunc_Token_Token_21.u1.f (k : Nat) (x0 : Sl) (kn : Sl → Int → M α) (kr : Sl → M α) : M α :=
  slices_IndexFunc_Token_Token_21.f k x0 fun r3 =>
  cond (decide (r3 = (-1))) (
    kr x0) (
    kn x0 r3)
noncomputable def slices_DeleteFunc_Token_Token_21.u1.c (R : IC) : IC := (.seq (.ops 0 (opsOf Tryd.f20 0)) (.seq (.ops 1 (opsOf Tryd.f20 1)) (.seq (.cut [0, 1, 5] (.seq (.ops 2 (opsOf Tryd.f20 2)) (.cond (.tmp 12) (.seq (.ops 3 (opsOf Tryd.f20 3)) (.ret [4])) .skip))) R)))
noncomputable def slices_DeleteFunc_Token_Token_21.u2.f (k : Nat) (x0 : Sl) (x1 : Int) (kn : Sl → Int → Int → M α) : M α :=
  kn x0 x1 (w64 (x1 + 1))
noncomputable def slices_DeleteFunc_Token_Token_21.u2.c (R : IC) : IC := (.seq (.cut [0, 1, 5, 6] (.ops 4 (opsOf Tryd.f20 4))) R)
noncomputable def slices_DeleteFunc_Token_Token_21.u3.f (k : Nat) (x0 : Sl) (x1 : Int) (x2 : Int) (kn : Sl → Int → Int → M α) (kx0 : Sl → Int → M α) : M α :=
  cond (decide (x2 < (x0.len : Int))) (
    idxSl x0 x2 4 fun a5 =>
    ldI .i64 (a5.add 0) fun x6 =>
    ldI .i64 (a5.add 1) fun x7 =>
    ldStr (a5.add 2) fun x8 =>
    ldI .i64 (a5.add 3) fun x9 =>
    new [.int .i64 0, .int .i64 0, .str [], .int .i64 0] fun v10 =>
    st1 (v10.add 0) (.int .i64 x6) <|
    st1 (v10.add 1) (.int .i64 x7) <|
    st1 (v10.add 2) (.str x8) <|
    st1 (v10.add 3) (.int .i64 x9) <|
    ldI .i64 (v10.add 0) fun x11 =>
    ldI .i64 (v10.add 1) fun x12 =>
    ldStr (v10.add 2) fun x13 =>
    ldI .i64 (v10.add 3) fun x14 =>
    syntax_Parse_c2.f k x11 x12 x13 x14 fun r15 =>
    cond (!r15) (
      ldI .i64 (v10.add 0) fun x16 =>
      ldI .i64 (v10.add 1) fun x17 =>
      ldStr (v10.add 2) fun x18 =>
      ldI .i64 (v10.add 3) fun x19 =>
      idxSl x0 x1 4 fun a20 =>
      st1 (a20.add 0) (.int .i64 x16) <|
      st1 (a20.add 1) (.int .i64 x17) <|
      st1 (a20.add 2) (.str x18) <|
      st1 (a20.add 3) (.int .i64 x19) <|
      kn x0 (w64 (x1 + 1)) (w64 (x2 + 1))) (
      kn x0 x1 (w64 (x2 + 1)))) (
    kx0 x0 x1)
noncomputable def slices_DeleteFunc_Token_Token_21.u3.c : IC := (.seq (.seq (.ops 5 (opsOf Tryd.f20 5)) (.cond (.tmp 19) .skip (.exit 0 [0, 5]))) (.seq (.block 1 (.seq (.ops 7 (opsOf Tryd.f20 7)) (.seq (.ops 8 (opsOf Tryd.f20 8)) (.cond (.tmp 29) (.seq (.ops 9 (opsOf Tryd.f20 9)) (.ops 10 (opsOf Tryd.f20 10))) .skip)))) (.cut [0, 1, 5, 6] (.ops 6 (opsOf Tryd.f20 6)))))
noncomputable def slices_DeleteFunc_Token_Token_21.u4.l (k : Nat) (kx0 : Sl → Int → M α) : Nat → Sl → Int → Int → M α
  | 0, _, _, _ => fail
  | j + 1, x0, x1, x2 =>
    slices_DeleteFunc_Token_Token_21.u3.f k x0 x1 x2 (fun y0 y1 y2 => slices_DeleteFunc_Token_Token_21.u4.l k kx0 j y0 y1 y2) kx0
noncomputable abbrev slices_DeleteFunc_Token_Token_21.u4.f (k : Nat) (x0 : Sl) (x1 : Int) (x2 : Int) (kx0 : Sl → Int → M α) : M α :=
  slices_DeleteFunc_Token_Token_21.u4.l k kx0 k x0 x1 x2
noncomputable def slices_DeleteFunc_Token_Token_21.u4.c : IC := .loop [0, 1, 5, 6] slices_DeleteFunc_Token_Token_21.u3.c
noncomputable abbrev slices_DeleteFunc_Token_Token_21.u5.f (k : Nat) (x0 : Sl) (x1 : Int) (x2 : Int) (kn : Sl → Int → M α) : M α :=
  slices_DeleteFunc_Token_Token_21.u4.f k x0 x1 x2 (fun y0 y1 => kn y0 y1)
noncomputable def slices_DeleteFunc_Token_Token_21.u5.c : IC := .block 0 slices_DeleteFunc_Token_Token_21.u4.c
noncomputable abbrev slices_DeleteFunc_Token_Token_21.u6.f (k : Nat) (x0 : Sl) (x1 : Int) (kn : Sl → Int → M α) : M α :=
  slices_DeleteFunc_Token_Token_21.u2.f k x0 x1 (fun y0 y1 y2 => slices_DeleteFunc_Token_Token_21.u5.f k y0 y1 y2 kn)
noncomputable def slices_DeleteFunc_Token_Token_21.u6.c : IC := slices_DeleteFunc_Token_Token_21.u2.c slices_DeleteFunc_Token_Token_21.u5.c
noncomputable def slices_DeleteFunc_Token_Token_21.u7.f (k : Nat) (x0 : Sl) (x1 : Int) (kr : Sl → M α) : M α :=
  cutSl x0 4 (some x1) none none fun x4 =>
  clearSl x4 [.int .i64 0, .int .i64 0, .str [], .int .i64 0] <|
  cutSl x0 4 none (some x1) none fun x5 =>
  kr x5
noncomputable def slices_DeleteFunc_Token_Token_21.u7.c : IC := (.seq (.ops 11 (opsOf Tryd.f20 11)) (.seq (.ops 12 (opsOf Tryd.f20 12)) (.ret [4])))
noncomputable abbrev slices_DeleteFunc_Token_Token_21.u8.f (k : Nat) (x0 : Sl) (x1 : Int) (kr : Sl → M α) : M α :=
  slices_DeleteFunc_Token_Token_21.u6.f k x0 x1 (fun y0 y1 => slices_DeleteFunc_Token_Token_21.u7.f k y0 y1 kr)
noncomputable def slices_DeleteFunc_Token_Token_21.u8.c : IC := (.seq slices_DeleteFunc_Token_Token_21.u6.c slices_DeleteFunc_Token_Token_21.u7.c)
noncomputable abbrev slices_DeleteFunc_Token_Token_21.u9.f (k : Nat) (x0 : Sl) (kr : Sl → M α) : M α :=
  slices_DeleteFunc_Token_Token_21.u1.f k x0 (fun y0 y1 => slices_DeleteFunc_Token_Token_21.u8.f k y0 y1 kr) kr
noncomputable def slices_DeleteFunc_Token_Token_21.u9.c : IC := slices_DeleteFunc_Token_Token_21.u1.c slices_DeleteFunc_Token_Token_21.u8.c
noncomputable def slices_DeleteFunc_Token_Token_21.f : Nat → Sl → (Sl → M α) → M α
  | 0, _, _ => fail
  | k + 1, x0, ret =>
    slices_DeleteFunc_Token_Token_21.u9.f k x0 (fun y0 =>
      ret y0)
noncomputable def spis.u1.f (k : Nat) (x0 : Ad) (x1 : List UInt8) (kr : Bool → M α) : M α :=
  ldS ((x0.add 0).add 0) fun x4 =>
  idxSl x4 0 4 fun a5 =>
  ldI .i64 ((a5.add 0).add 0) fun x6 =>
  cond (decide (x6 = 5)) (
    ldS ((x0.add 0).add 0) fun x7 =>
    idxSl x7 0 4 fun a8 =>
    ldStr ((a8.add 2).add 0) fun x9 =>
    kr (decide (x9 = x1))) (
    kr false)
noncomputable def spis.u1.c : IC := (.seq (.ops 0 (opsOf Tryd.f47 0)) (.seq (.ops 1 (opsOf Tryd.f47 1)) (.ret [4])))
noncomputable def spis.f : Nat → Ad → List UInt8 → (Bool → M α) → M α
  | 0, _, _, _ => fail
  | k + 1, x0, x1, ret =>
    spis.u1.f k x0 x1 (fun y0 =>
      ret y0)
noncomputable def spnext.u1.f (k : Nat) (x0 : Ad) (kr : Ad → M α) : M α :=
  new [.int .i64 0, .int .i64 0, .str [], .int .i64 0] fun x3 =>
  ldS ((x0.add 0).add 0) fun x4 =>
  idxSl x4 0 4 fun a5 =>
  ldI .i64 (a5.add 0) fun x6 =>
  ldI .i64 (a5.add 1) fun x7 =>
  ldStr (a5.add 2) fun x8 =>
  ldI .i64 (a5.add 3) fun x9 =>
  new [.int .i64 0, .int .i64 0, .str [], .int .i64 0] fun t10 =>
  st1 (t10.add 0) (.int .i64 x6) <|
  st1 (t10.add 1) (.int .i64 x7) <|
  st1 (t10.add 2) (.str x8) <|
  st1 (t10.add 3) (.int .i64 x9) <|
  ldS ((x0.add 0).add 0) fun x11 =>
  cutSl x11 4 (some 1) none none fun x12 =>
  st1 ((x0.add 0).add 0) (.slice x12) <|
  ldI .i64 (t10.add 0) fun x13 =>
  ldI .i64 (t10.add 1) fun x14 =>
  ldStr (t10.add 2) fun x15 =>
  ldI .i64 (t10.add 3) fun x16 =>
  st1 (x3.add 0) (.int .i64 x13) <|
  st1 (x3.add 1) (.int .i64 x14) <|
  st1 (x3.add 2) (.str x15) <|
  st1 (x3.add 3) (.int .i64 x16) <|
  kr x3
noncomputable def spnext.u1.c : IC := (.seq (.ops 0 (opsOf Tryd.f56 0)) (.seq (.ops 1 (opsOf Tryd.f56 1)) (.seq (.ops 2 (opsOf Tryd.f56 2)) (.seq (.ops 3 (opsOf Tryd.f56 3)) (.ret [2])))))
noncomputable def spnext.f : Nat → Ad → (Int → Int → List UInt8 → Int → M α) → M α
  | 0, _, _ => fail
  | k + 1, x0, ret =>
    spnext.u1.f k x0 (fun y0 =>
      ldI .i64 (y0.add 0) fun o501 =>
      ldI .i64 (y0.add 1) fun o502 =>
      ldStr (y0.add 2) fun o503 =>
      ldI .i64 (y0.add 3) fun o504 =>
      ret o501 o502 o503 o504)
noncomputable def spmakes.u1.f (k : Nat) (x0 : Ad) (kr : Ad → M α) (kp : V → M α) : M α :=
  new [.int .i64 0, .int .i64 0, .str [], .int .i64 0] fun x3 =>
  ldI .i64 ((x0.add 1).add 0) fun x4 =>
  cond (decide (x4 = 60)) (
    ldS ((x0.add 0).add 0) fun x5 =>
    idxSl x5 0 4 fun a6 =>
    ldI .i64 ((a6.add 1).add 0) fun x7 =>
    kp (.iface 55 (.agg [.int .i64 x7, .int .i64 10]))) (
    ldI .i64 ((x0.add 1).add 0) fun x8 =>
    st1 ((x0.add 1).add 0) (.int .i64 (w64 (x8 + 1))) <|
    spnext.f k x0 fun r9 r10 r11 r12 =>
    st1 (x3.add 0) (.int .i64 r9) <|
    st1 (x3.add 1) (.int .i64 r10) <|
    st1 (x3.add 2) (.str r11) <|
    st1 (x3.add 3) (.int .i64 r12) <|
    kr x3)
noncomputable def spmakes.u1.c : IC := (.seq (.ops 0 (opsOf Tryd.f48 0)) (.seq (.seq (.ops 1 (opsOf Tryd.f48 1)) (.cond (.tmp 7) (.ops 2 (opsOf Tryd.f48 2)) .skip)) (.seq (.ops 3 (opsOf Tryd.f48 3)) (.seq (.ops 4 (opsOf Tryd.f48 4)) (.ret [2])))))
noncomputable def spmakes.f : Nat → Ad → (V → M α) → (Int → Int → List UInt8 → Int → M α) → M α
  | 0, _, _, _ => fail
  | k + 1, x0, pan, ret =>
    spmakes.u1.f k x0 (fun y0 =>
      ldI .i64 (y0.add 0) fun o501 =>
      ldI .i64 (y0.add 1) fun o502 =>
      ldStr (y0.add 2) fun o503 =>
      ldI .i64 (y0.add 3) fun o504 =>
      ret o501 o502 o503 o504) pan
noncomputable def spnode.u1.f (k : Nat) (x0 : Ad) (x1 : Int) (x2 : Int) (x3 : Int) (x4 : List UInt8) (x5 : Int) (kr : Int → M α) : M α :=
  new [.int .i64 x1, .int .i64 x2, .int .i64 x3, .str x4, .int .i64 x5] fun n8 =>
  ldS ((x0.add 2).add 0) fun x9 =>
  ldI .i64 (n8.add 0) fun x10 =>
  ldI .i64 (n8.add 1) fun x11 =>
  ldI .i64 (n8.add 2) fun x12 =>
  ldStr (n8.add 3) fun x13 =>
  ldI .i64 (n8.add 4) fun x14 =>
  new [.int .i64 x10, .int .i64 x11, .int .i64 x12, .str x13, .int .i64 x14] fun r15 =>
  ldS ((x0.add 2).add 0) fun y16 =>
  need (decide (x9 = y16)) <|
  appRow x9 5 48 (⟨some r15, 1, 1, none⟩ : Sl) fun x17 =>
  st1 ((x0.add 2).add 0) (.slice x17) <|
  ldS ((x0.add 2).add 0) fun x18 =>
  kr (w64 ((x18.len : Int) - 1))
noncomputable def spnode.u1.c : IC := (.seq (.ops 0 (opsOf Tryd.f49 0)) (.seq (.drawn 1 (opsOf Tryd.f49 1) true [.op 0, .op 1, .op 2, .op 3, .op 4, .op 5, .op 6, .look 4, .op 7, .op 8, .op 9, .op 10]) (.seq (.ops 2 (opsOf Tryd.f49 2)) (.ret [4]))))
noncomputable def spnode.f : Nat → Ad → Int → Int → Int → List UInt8 → Int → (Int → M α) → M α
  | 0, _, _, _, _, _, _, _ => fail
  | k + 1, x0, x1, x2, x3, x4, x5, ret =>
    spnode.u1.f k x0 x1 x2 x3 x4 x5 (fun y0 =>
      ret y0)
noncomputable def spwrong.u1.f (k : Nat) (x0 : Ad) (kp : V → M α) : M α :=
  ldS ((x0.add 0).add 0) fun x3 =>
  idxSl x3 0 4 fun a4 =>
  ldI .i64 ((a4.add 0).add 0) fun x5 =>
  cond (decide (x5 = 0)) (
    ldS ((x0.add 0).add 0) fun x6 =>
    idxSl x6 0 4 fun a7 =>
    ldI .i64 ((a7.add 1).add 0) fun x8 =>
    kp (.iface 55 (.agg [.int .i64 x8, .int .i64 6]))) (
    ldS ((x0.add 0).add 0) fun x9 =>
    idxSl x9 0 4 fun a10 =>
    ldI .i64 ((a10.add 1).add 0) fun x11 =>
    kp (.iface 55 (.agg [.int .i64 x11, .int .i64 7])))
noncomputable def spwrong.u1.c : IC := (.seq (.ops 0 (opsOf Tryd.f23 0)) (.seq (.seq (.ops 1 (opsOf Tryd.f23 1)) (.cond (.tmp 10) (.ops 2 (opsOf Tryd.f23 2)) .skip)) (.ops 3 (opsOf Tryd.f23 3))))
noncomputable def spwrong.f : Nat → Ad → (V → M α) → (M α) → M α
  | 0, _, _, _ => fail
  | k + 1, x0, pan, ret =>
    spwrong.u1.f k x0 pan
noncomputable def syntax_word.u1.f (k : Nat) (x0 : List UInt8) (kr : Bool → M α) : M α :=
  cond (decide (x0 = [116, 116])) (
    kr true) (
    cond (decide (x0 = [102, 102])) (
      kr true) (
      cond (decide (x0 = [109, 117])) (
        kr true) (
        kr (decide (x0 = [110, 117])))))
noncomputable def syntax_word.u1.c : IC := (.seq (.ops 0 (opsOf Tryd.f42 0)) (.seq (.ops 1 (opsOf Tryd.f42 1)) (.ret [2])))
noncomputable def syntax_word.f : Nat → List UInt8 → (Bool → M α) → M α
  | 0, _, _ => fail
  | k + 1, x0, ret =>
    syntax_word.u1.f k x0 (fun y0 =>
      ret y0)
noncomputable def spneed.u1.f (k : Nat) (x0 : Ad) (x1 : List UInt8) (kn : M α) (kp : V → M α) : M α :=
  spis.f k x0 x1 fun r4 =>
  cond (!r4) (
    spwrong.f k x0 (fun e9 =>
      kp e9) (
      spnext.f k x0 fun r5 r6 r7 r8 =>
      kn)) (
    spnext.f k x0 fun r10 r11 r12 r13 =>
    kn)
noncomputable def spneed.u1.c : IC := (.seq (.seq (.ops 0 (opsOf Tryd.f58 0)) (.cond (.tmp 7) (.ops 1 (opsOf Tryd.f58 1)) .skip)) (.cut [] (.ops 2 (opsOf Tryd.f58 2))))
noncomputable def spneed.f : Nat → Ad → List UInt8 → (V → M α) → (M α) → M α
  | 0, _, _, _, _ => fail
  | k + 1, x0, x1, pan, ret =>
    spneed.u1.f k x0 x1 (ret) pan
noncomputable def spstep.u1.f (k : Nat) (x0 : Ad) (x1 : List UInt8) (kr : List UInt8 → M α) (kp : V → M α) : M α :=
  spis.f k x0 [45] fun r4 =>
  cond (!r4) (
    ldS ((x0.add 0).add 0) fun x5 =>
    idxSl x5 0 4 fun a6 =>
    ldI .i64 ((a6.add 0).add 0) fun x7 =>
    cond (!(decide (x7 = 2))) (
      spwrong.f k x0 (fun e13 =>
        kp e13) (
        spnext.f k x0 fun r8 r9 r10 r11 =>
        spneed.f k x0 x1 (fun e12 =>
          kp e12) (
          kr r10))) (
      ldS ((x0.add 0).add 0) fun x14 =>
      idxSl x14 0 4 fun a15 =>
      ldStr ((a15.add 2).add 0) fun x16 =>
      syntax_word.f k x16 fun r17 =>
      cond (r17) (
        spwrong.f k x0 (fun e23 =>
          kp e23) (
          spnext.f k x0 fun r18 r19 r20 r21 =>
          spneed.f k x0 x1 (fun e22 =>
            kp e22) (
            kr r20))) (
        spnext.f k x0 fun r24 r25 r26 r27 =>
        spneed.f k x0 x1 (fun e28 =>
          kp e28) (
          kr r26)))) (
    spnext.f k x0 fun r29 r30 r31 r32 =>
    spneed.f k x0 x1 (fun e33 =>
      kp e33) (
      kr r31))
noncomputable def spstep.u1.c : IC := (.seq (.ops 0 (opsOf Tryd.f57 0)) (.seq (.seq (.ops 1 (opsOf Tryd.f57 1)) (.cond (.tmp 28) (.ops 2 (opsOf Tryd.f57 2)) .skip)) (.seq (.ops 3 (opsOf Tryd.f57 3)) (.seq (.ops 4 (opsOf Tryd.f57 4)) (.seq (.ops 5 (opsOf Tryd.f57 5)) (.ret [4]))))))
noncomputable def spstep.f : Nat → Ad → List UInt8 → (V → M α) → (List UInt8 → M α) → M α
  | 0, _, _, _, _ => fail
  | k + 1, x0, x1, pan, ret =>
    spstep.u1.f k x0 x1 (fun y0 =>
      ret y0) pan
noncomputable def spformula.u1.f (k : Nat) (rr33 : Ad → List UInt8 → Int → V → (V → M α) → (Int → M α) → M α) (x0 : Ad) (kr : Int → M α) (kp : V → M α) : M α :=
  rr33 x0 [124] 7 (.func 34 [.ptr (some x0)] []) (fun e4 =>
    kp e4) (
    fun r3 =>
    kr r3)
noncomputable def spformula.u1.c : IC := (.seq (.ops 0 (opsOf Tryd.f22 0)) (.seq (.ops 1 (opsOf Tryd.f22 1)) (.ret [2])))
noncomputable def sprow.u1.f (k : Nat) (rr34 : Ad → (V → M α) → (Int → M α) → M α) (rr50 : Ad → (V → M α) → (Int → M α) → M α) (x0 : Ad) (x1 : List UInt8) (x2 : Int) (x3 : V) (kn : Ad → List UInt8 → Int → V → Int → M α) (kp : V → M α) : M α :=
  asFunc x3 fun f6 ls7 ls8 =>
  cond (Nat.beq f6 34) (
    uncons ls7 fun v9 ls10 =>
    unnil ls10 <|
    unnil ls8 <|
    asP v9 fun x11 =>
    asSome x11 fun p12 =>
    rr34 p12 (fun e14 =>
      kp e14) (
      fun r13 =>
      kn x0 x1 x2 x3 r13)) (
    cond (Nat.beq f6 50) (
      uncons ls7 fun v15 ls16 =>
      unnil ls16 <|
      unnil ls8 <|
      asP v15 fun x17 =>
      asSome x17 fun p18 =>
      rr50 p18 (fun e20 =>
        kp e20) (
        fun r19 =>
        kn x0 x1 x2 x3 r19)) (
      fail))
noncomputable def sprow.u1.c (R : IC) : IC := (.seq (.ops 0 (opsOf Tryd.f33 0)) (.seq (.cut [0, 1, 2, 3, 9] (.drawn 1 (opsOf Tryd.f33 1) false [.op 0, .expect 11 [(34, 1, 0), (50, 1, 0)], .op 1, .op 2])) R))
noncomputable def sprow.u2.f (k : Nat) (rr34 : Ad → (V → M α) → (Int → M α) → M α) (rr50 : Ad → (V → M α) → (Int → M α) → M α) (x0 : Ad) (x1 : List UInt8) (x2 : Int) (x3 : V) (x4 : Int) (kn : Ad → List UInt8 → Int → V → Int → M α) (kx0 : Int → M α) (kp : V → M α) : M α :=
  spis.f k x0 x1 fun r7 =>
  cond (r7) (
    spmakes.f k x0 (fun e33 =>
      kp e33) (
      fun r8 r9 r10 r11 =>
      new [.int .i64 0, .int .i64 0, .str [], .int .i64 0] fun t12 =>
      st1 (t12.add 0) (.int .i64 r8) <|
      st1 (t12.add 1) (.int .i64 r9) <|
      st1 (t12.add 2) (.str r10) <|
      st1 (t12.add 3) (.int .i64 r11) <|
      ldI .i64 ((t12.add 1).add 0) fun x13 =>
      asFunc x3 fun f14 ls15 ls16 =>
      cond (Nat.beq f14 34) (
        uncons ls15 fun v17 ls18 =>
        unnil ls18 <|
        unnil ls16 <|
        asP v17 fun x19 =>
        asSome x19 fun p20 =>
        rr34 p20 (fun e24 =>
          kp e24) (
          fun r21 =>
          ldI .i64 ((t12.add 1).add 0) fun y22 =>
          need (decide (x13 = y22)) <|
          spnode.f k x0 x2 x4 r21 [] x13 fun r23 =>
          kn x0 x1 x2 x3 r23)) (
        cond (Nat.beq f14 50) (
          uncons ls15 fun v25 ls26 =>
          unnil ls26 <|
          unnil ls16 <|
          asP v25 fun x27 =>
          asSome x27 fun p28 =>
          rr50 p28 (fun e32 =>
            kp e32) (
            fun r29 =>
            ldI .i64 ((t12.add 1).add 0) fun y30 =>
            need (decide (x13 = y30)) <|
            spnode.f k x0 x2 x4 r29 [] x13 fun r31 =>
            kn x0 x1 x2 x3 r31)) (
          fail)))) (
    kx0 x4)
noncomputable def sprow.u2.c : IC := (.seq (.seq (.ops 2 (opsOf Tryd.f33 2)) (.cond (.tmp 15) .skip (.exit 0 [9]))) (.cut [0, 1, 2, 3, 9] (.block 1 (.seq (.ops 3 (opsOf Tryd.f33 3)) (.drawn 4 (opsOf Tryd.f33 4) true [.op 0, .op 1, .op 2, .op 3, .op 5, .op 6, .expect 21 [(34, 1, 0), (50, 1, 0)], .op 4, .look 6, .op 7, .op 8, .op 9])))))
noncomputable def sprow.u3.l (k : Nat) (rr34 : Ad → (V → M α) → (Int → M α) → M α) (rr50 : Ad → (V → M α) → (Int → M α) → M α) (kx0 : Int → M α) (kp : V → M α) : Nat → Ad → List UInt8 → Int → V → Int → M α
  | 0, _, _, _, _, _ => fail
  | j + 1, x0, x1, x2, x3, x4 =>
    sprow.u2.f k rr34 rr50 x0 x1 x2 x3 x4 (fun y0 y1 y2 y3 y4 => sprow.u3.l k rr34 rr50 kx0 kp j y0 y1 y2 y3 y4) kx0 kp
noncomputable abbrev sprow.u3.f (k : Nat) (rr34 : Ad → (V → M α) → (Int → M α) → M α) (rr50 : Ad → (V → M α) → (Int → M α) → M α) (x0 : Ad) (x1 : List UInt8) (x2 : Int) (x3 : V) (x4 : Int) (kx0 : Int → M α) (kp : V → M α) : M α :=
  sprow.u3.l k rr34 rr50 kx0 kp k x0 x1 x2 x3 x4
noncomputable def sprow.u3.c : IC := .loop [0, 1, 2, 3, 9] sprow.u2.c
noncomputable abbrev sprow.u4.f (k : Nat) (rr34 : Ad → (V → M α) → (Int → M α) → M α) (rr50 : Ad → (V → M α) → (Int → M α) → M α) (x0 : Ad) (x1 : List UInt8) (x2 : Int) (x3 : V) (x4 : Int) (kn : Int → M α) (kp : V → M α) : M α :=
  sprow.u3.f k rr34 rr50 x0 x1 x2 x3 x4 (fun y0 => kn y0) kp
noncomputable def sprow.u4.c : IC := .block 0 sprow.u3.c
noncomputable def sprow.u5.f (k : Nat) (x0 : Int) (kr : Int → M α) : M α :=
  kr x0
noncomputable def sprow.u5.c : IC := (.seq (.ops 5 (opsOf Tryd.f33 5)) (.ret [8]))
noncomputable abbrev sprow.u6.f (k : Nat) (rr34 : Ad → (V → M α) → (Int → M α) → M α) (rr50 : Ad → (V → M α) → (Int → M α) → M α) (x0 : Ad) (x1 : List UInt8) (x2 : Int) (x3 : V) (x4 : Int) (kr : Int → M α) (kp : V → M α) : M α :=
  sprow.u4.f k rr34 rr50 x0 x1 x2 x3 x4 (fun y0 => sprow.u5.f k y0 kr) kp
noncomputable def sprow.u6.c : IC := (.seq sprow.u4.c sprow.u5.c)
noncomputable abbrev sprow.u7.f (k : Nat) (rr34 : Ad → (V → M α) → (Int → M α) → M α) (rr50 : Ad → (V → M α) → (Int → M α) → M α) (x0 : Ad) (x1 : List UInt8) (x2 : Int) (x3 : V) (kr : Int → M α) (kp : V → M α) : M α :=
  sprow.u1.f k rr34 rr50 x0 x1 x2 x3 (fun y0 y1 y2 y3 y4 => sprow.u6.f k rr34 rr50 y0 y1 y2 y3 y4 kr kp) kp
noncomputable def sprow.u7.c : IC := sprow.u1.c sprow.u6.c
noncomputable def spand.u1.f (k : Nat) (rr33 : Ad → List UInt8 → Int → V → (V → M α) → (Int → M α) → M α) (x0 : Ad) (kr : Int → M α) (kp : V → M α) : M α :=
  rr33 x0 [38] 6 (.func 50 [.ptr (some x0)] []) (fun e4 =>
    kp e4) (
    fun r3 =>
    kr r3)
noncomputable def spand.u1.c : IC := (.seq (.ops 0 (opsOf Tryd.f34 0)) (.seq (.ops 1 (opsOf Tryd.f34 1)) (.ret [2])))
noncomputable def spunary.u1.f (k : Nat) (x0 : Ad) (kn : Ad → M α) : M α :=
  kn x0
noncomputable def spunary.u1.c (R : IC) : IC := (.seq (.cut [0] (.ops 0 (opsOf Tryd.f50 0))) R)
noncomputable def spunary.u2.f (k : Nat) (x0 : Ad) (kn : Ad → Bool → M α) : M α :=
  spis.f k x0 [126] fun r3 =>
  kn x0 r3
noncomputable def spunary.u2.c (R : IC) : IC := (.seq (.cut [0, 10] (.ops 1 (opsOf Tryd.f50 1))) R)
noncomputable def spunary.u3.f (k : Nat) (rr50 : Ad → (V → M α) → (Int → M α) → M α) (x0 : Ad) (x1 : Bool) (kr : Int → M α) (kp : V → M α) : M α :=
  spmakes.f k x0 (fun e14 =>
    kp e14) (
    fun r4 r5 r6 r7 =>
    new [.int .i64 0, .int .i64 0, .str [], .int .i64 0] fun t8 =>
    st1 (t8.add 0) (.int .i64 r4) <|
    st1 (t8.add 1) (.int .i64 r5) <|
    st1 (t8.add 2) (.str r6) <|
    st1 (t8.add 3) (.int .i64 r7) <|
    ldI .i64 ((t8.add 1).add 0) fun x9 =>
    rr50 x0 (fun e13 =>
      kp e13) (
      fun r10 =>
      ldI .i64 ((t8.add 1).add 0) fun y11 =>
      need (decide (x9 = y11)) <|
      spnode.f k x0 5 r10 0 [] x9 fun r12 =>
      kr r12))
noncomputable def spunary.u3.c : IC := (.seq (.ops 2 (opsOf Tryd.f50 2)) (.seq (.drawn 3 (opsOf Tryd.f50 3) true [.op 0, .op 1, .op 3, .op 4, .op 2, .look 4, .op 5, .op 6, .op 7]) (.ret [2])))
noncomputable def spunary.u4.f (k : Nat) (x0 : Ad) (x1 : Bool) (kn : Ad → Bool → M α) : M α :=
  spis.f k x0 [60] fun r4 =>
  kn x0 r4
noncomputable def spunary.u4.c (R : IC) : IC := (.seq (.cut [0, 22] (.ops 4 (opsOf Tryd.f50 4))) R)
noncomputable def spunary.u5.f (k : Nat) (rr50 : Ad → (V → M α) → (Int → M α) → M α) (x0 : Ad) (x1 : Bool) (kr : Int → M α) (kp : V → M α) : M α :=
  spmakes.f k x0 (fun e16 =>
    kp e16) (
    fun r4 r5 r6 r7 =>
    new [.int .i64 0, .int .i64 0, .str [], .int .i64 0] fun t8 =>
    st1 (t8.add 0) (.int .i64 r4) <|
    st1 (t8.add 1) (.int .i64 r5) <|
    st1 (t8.add 2) (.str r6) <|
    st1 (t8.add 3) (.int .i64 r7) <|
    spstep.f k x0 [62] (fun e15 =>
      kp e15) (
      fun r9 =>
      ldI .i64 ((t8.add 1).add 0) fun x10 =>
      rr50 x0 (fun e14 =>
        kp e14) (
        fun r11 =>
        ldI .i64 ((t8.add 1).add 0) fun y12 =>
        need (decide (x10 = y12)) <|
        spnode.f k x0 8 r11 0 r9 x10 fun r13 =>
        kr r13)))
noncomputable def spunary.u5.c : IC := (.seq (.ops 5 (opsOf Tryd.f50 5)) (.seq (.ops 6 (opsOf Tryd.f50 6)) (.seq (.drawn 7 (opsOf Tryd.f50 7) true [.op 0, .op 1, .op 3, .op 4, .op 5, .op 2, .look 5, .op 6, .op 7, .op 8]) (.ret [2]))))
noncomputable def spunary.u6.f (k : Nat) (x0 : Ad) (x1 : Bool) (kn : Ad → Bool → M α) : M α :=
  spis.f k x0 [91] fun r4 =>
  kn x0 r4
noncomputable def spunary.u6.c (R : IC) : IC := (.seq (.cut [0, 37] (.ops 8 (opsOf Tryd.f50 8))) R)
noncomputable def spunary.u7.f (k : Nat) (rr50 : Ad → (V → M α) → (Int → M α) → M α) (x0 : Ad) (x1 : Bool) (kr : Int → M α) (kp : V → M α) : M α :=
  spmakes.f k x0 (fun e16 =>
    kp e16) (
    fun r4 r5 r6 r7 =>
    new [.int .i64 0, .int .i64 0, .str [], .int .i64 0] fun t8 =>
    st1 (t8.add 0) (.int .i64 r4) <|
    st1 (t8.add 1) (.int .i64 r5) <|
    st1 (t8.add 2) (.str r6) <|
    st1 (t8.add 3) (.int .i64 r7) <|
    spstep.f k x0 [93] (fun e15 =>
      kp e15) (
      fun r9 =>
      ldI .i64 ((t8.add 1).add 0) fun x10 =>
      rr50 x0 (fun e14 =>
        kp e14) (
        fun r11 =>
        ldI .i64 ((t8.add 1).add 0) fun y12 =>
        need (decide (x10 = y12)) <|
        spnode.f k x0 9 r11 0 r9 x10 fun r13 =>
        kr r13)))
noncomputable def spunary.u7.c : IC := (.seq (.ops 9 (opsOf Tryd.f50 9)) (.seq (.ops 10 (opsOf Tryd.f50 10)) (.seq (.drawn 11 (opsOf Tryd.f50 11) true [.op 0, .op 1, .op 3, .op 4, .op 5, .op 2, .look 5, .op 6, .op 7, .op 8]) (.ret [2]))))
noncomputable def spunary.u8.f (k : Nat) (rr22 : Ad → (V → M α) → (Int → M α) → M α) (rr59 : Ad → (V → M α) → (Int → M α) → M α) (x0 : Ad) (x1 : Bool) (kn : Ad → M α) (kr : Int → M α) (kp : V → M α) : M α :=
  spis.f k x0 [40] fun r4 =>
  cond (r4) (
    spnext.f k x0 fun r5 r6 r7 r8 =>
    rr22 x0 (fun e11 =>
      kp e11) (
      fun r9 =>
      spneed.f k x0 [41] (fun e10 =>
        kp e10) (
        kr r9))) (
    ldS ((x0.add 0).add 0) fun x12 =>
    idxSl x12 0 4 fun a13 =>
    ldI .i64 ((a13.add 0).add 0) fun x14 =>
    cond (decide (x14 = 3)) (
      spmakes.f k x0 (fun e23 =>
        kp e23) (
        fun r15 r16 r17 r18 =>
        new [.int .i64 0, .int .i64 0, .str [], .int .i64 0] fun t19 =>
        st1 (t19.add 0) (.int .i64 r15) <|
        st1 (t19.add 1) (.int .i64 r16) <|
        st1 (t19.add 2) (.str r17) <|
        st1 (t19.add 3) (.int .i64 r18) <|
        ldStr ((t19.add 2).add 0) fun x20 =>
        ldI .i64 ((t19.add 1).add 0) fun x21 =>
        spnode.f k x0 4 0 0 x20 x21 fun r22 =>
        kr r22)) (
      ldS ((x0.add 0).add 0) fun x24 =>
      idxSl x24 0 4 fun a25 =>
      ldI .i64 ((a25.add 0).add 0) fun x26 =>
      cond (decide (x26 = 2)) (
        rr59 x0 (fun e28 =>
          kp e28) (
          fun r27 =>
          kr r27)) (
        kn x0)))
noncomputable def spunary.u8.c : IC := (.seq (.ops 12 (opsOf Tryd.f50 12)) (.cut [0] (.cond (.tmp 52) (.seq (.ops 13 (opsOf Tryd.f50 13)) (.seq (.ops 14 (opsOf Tryd.f50 14)) (.seq (.ops 15 (opsOf Tryd.f50 15)) (.seq (.ops 16 (opsOf Tryd.f50 16)) (.ret [2]))))) (.seq (.ops 17 (opsOf Tryd.f50 17)) (.cond (.tmp 62) (.seq (.ops 18 (opsOf Tryd.f50 18)) (.seq (.ops 19 (opsOf Tryd.f50 19)) (.ret [2]))) (.seq (.ops 20 (opsOf Tryd.f50 20)) (.cond (.tmp 80) (.seq (.ops 21 (opsOf Tryd.f50 21)) (.ret [2])) .skip)))))))
noncomputable abbrev spunary.u9.f (k : Nat) (rr50 : Ad → (V → M α) → (Int → M α) → M α) (rr22 : Ad → (V → M α) → (Int → M α) → M α) (rr59 : Ad → (V → M α) → (Int → M α) → M α) (x0 : Ad) (x1 : Bool) (kn : Ad → M α) (kr : Int → M α) (kp : V → M α) : M α :=
  cond x1 (
    spunary.u7.f k rr50 x0 x1 kr kp) (
    spunary.u8.f k rr22 rr59 x0 x1 kn kr kp)
noncomputable def spunary.u9.c : IC := .cond (.tmp 37) spunary.u7.c spunary.u8.c
noncomputable abbrev spunary.u10.f (k : Nat) (rr50 : Ad → (V → M α) → (Int → M α) → M α) (rr22 : Ad → (V → M α) → (Int → M α) → M α) (rr59 : Ad → (V → M α) → (Int → M α) → M α) (x0 : Ad) (x1 : Bool) (kn : Ad → M α) (kr : Int → M α) (kp : V → M α) : M α :=
  spunary.u6.f k x0 x1 (fun y0 y1 => spunary.u9.f k rr50 rr22 rr59 y0 y1 kn kr kp)
noncomputable def spunary.u10.c : IC := spunary.u6.c spunary.u9.c
noncomputable abbrev spunary.u11.f (k : Nat) (rr50 : Ad → (V → M α) → (Int → M α) → M α) (rr22 : Ad → (V → M α) → (Int → M α) → M α) (rr59 : Ad → (V → M α) → (Int → M α) → M α) (x0 : Ad) (x1 : Bool) (kn : Ad → M α) (kr : Int → M α) (kp : V → M α) : M α :=
  cond x1 (
    spunary.u5.f k rr50 x0 x1 kr kp) (
    spunary.u10.f k rr50 rr22 rr59 x0 x1 kn kr kp)
noncomputable def spunary.u11.c : IC := .cond (.tmp 22) spunary.u5.c spunary.u10.c
noncomputable abbrev spunary.u12.f (k : Nat) (rr50 : Ad → (V → M α) → (Int → M α) → M α) (rr22 : Ad → (V → M α) → (Int → M α) → M α) (rr59 : Ad → (V → M α) → (Int → M α) → M α) (x0 : Ad) (x1 : Bool) (kn : Ad → M α) (kr : Int → M α) (kp : V → M α) : M α :=
  spunary.u4.f k x0 x1 (fun y0 y1 => spunary.u11.f k rr50 rr22 rr59 y0 y1 kn kr kp)
noncomputable def spunary.u12.c : IC := spunary.u4.c spunary.u11.c
noncomputable abbrev spunary.u13.f (k : Nat) (rr50 : Ad → (V → M α) → (Int → M α) → M α) (rr22 : Ad → (V → M α) → (Int → M α) → M α) (rr59 : Ad → (V → M α) → (Int → M α) → M α) (x0 : Ad) (x1 : Bool) (kn : Ad → M α) (kr : Int → M α) (kp : V → M α) : M α :=
  cond x1 (
    spunary.u3.f k rr50 x0 x1 kr kp) (
    spunary.u12.f k rr50 rr22 rr59 x0 x1 kn kr kp)
noncomputable def spunary.u13.c : IC := .cond (.tmp 10) spunary.u3.c spunary.u12.c
noncomputable abbrev spunary.u14.f (k : Nat) (rr50 : Ad → (V → M α) → (Int → M α) → M α) (rr22 : Ad → (V → M α) → (Int → M α) → M α) (rr59 : Ad → (V → M α) → (Int → M α) → M α) (x0 : Ad) (kn : Ad → M α) (kr : Int → M α) (kp : V → M α) : M α :=
  spunary.u2.f k x0 (fun y0 y1 => spunary.u13.f k rr50 rr22 rr59 y0 y1 kn kr kp)
noncomputable def spunary.u14.c : IC := spunary.u2.c spunary.u13.c
noncomputable abbrev spunary.u15.f (k : Nat) (rr50 : Ad → (V → M α) → (Int → M α) → M α) (rr22 : Ad → (V → M α) → (Int → M α) → M α) (rr59 : Ad → (V → M α) → (Int → M α) → M α) (x0 : Ad) (kn : Ad → M α) (kr : Int → M α) (kp : V → M α) : M α :=
  spunary.u14.f k rr50 rr22 rr59 x0 (fun y0 => kn y0) kr kp
noncomputable def spunary.u15.c : IC := .block 0 spunary.u14.c
noncomputable def spunary.u16.f (k : Nat) (x0 : Ad) (kr : Int → M α) (kp : V → M α) : M α :=
  spwrong.f k x0 (fun e3 =>
    kp e3) (
    kr 0)
noncomputable def spunary.u16.c : IC := (.seq (.ops 22 (opsOf Tryd.f50 22)) (.seq (.ops 23 (opsOf Tryd.f50 23)) (.ret [2])))
noncomputable abbrev spunary.u17.f (k : Nat) (rr50 : Ad → (V → M α) → (Int → M α) → M α) (rr22 : Ad → (V → M α) → (Int → M α) → M α) (rr59 : Ad → (V → M α) → (Int → M α) → M α) (x0 : Ad) (kr : Int → M α) (kp : V → M α) : M α :=
  spunary.u15.f k rr50 rr22 rr59 x0 (fun y0 => spunary.u16.f k y0 kr kp) kr kp
noncomputable def spunary.u17.c : IC := (.seq spunary.u15.c spunary.u16.c)
noncomputable abbrev spunary.u18.f (k : Nat) (rr50 : Ad → (V → M α) → (Int → M α) → M α) (rr22 : Ad → (V → M α) → (Int → M α) → M α) (rr59 : Ad → (V → M α) → (Int → M α) → M α) (x0 : Ad) (kr : Int → M α) (kp : V → M α) : M α :=
  spunary.u1.f k x0 (fun y0 => spunary.u17.f k rr50 rr22 rr59 y0 kr kp)
noncomputable def spunary.u18.c : IC := spunary.u1.c spunary.u17.c
noncomputable def spword.u1.f (k : Nat) (x0 : Ad) (kn : Ad → Ad → Int → M α) (kr : Int → M α) (kp : V → M α) : M α :=
  spmakes.f k x0 (fun e16 =>
    kp e16) (
    fun r3 r4 r5 r6 =>
    new [.int .i64 0, .int .i64 0, .str [], .int .i64 0] fun t7 =>
    st1 (t7.add 0) (.int .i64 r3) <|
    st1 (t7.add 1) (.int .i64 r4) <|
    st1 (t7.add 2) (.str r5) <|
    st1 (t7.add 3) (.int .i64 r6) <|
    ldStr ((t7.add 2).add 0) fun x8 =>
    cond (decide (x8 = [116, 116])) (
      ldI .i64 ((t7.add 1).add 0) fun x9 =>
      spnode.f k x0 1 0 0 [] x9 fun r10 =>
      kr r10) (
      cond (decide (x8 = [102, 102])) (
        ldI .i64 ((t7.add 1).add 0) fun x11 =>
        spnode.f k x0 2 0 0 [] x11 fun r12 =>
        kr r12) (
        cond (decide (x8 = [109, 117])) (
          kn x0 t7 10) (
          cond (decide (x8 = [110, 117])) (
            kn x0 t7 11) (
            ldStr ((t7.add 2).add 0) fun x13 =>
            ldI .i64 ((t7.add 1).add 0) fun x14 =>
            spnode.f k x0 3 0 0 x13 x14 fun r15 =>
            kr r15)))))
noncomputable def spword.u1.c (R : IC) : IC := (.seq (.ops 0 (opsOf Tryd.f59 0)) (.seq (.ops 1 (opsOf Tryd.f59 1)) (.seq (.ops 2 (opsOf Tryd.f59 2)) (.seq (.cut [0, 3, 4] (.seq (.ops 3 (opsOf Tryd.f59 3)) (.block 0 (.seq (.ops 5 (opsOf Tryd.f59 5)) (.cond (.tmp 17) (.seq (.ops 6 (opsOf Tryd.f59 6)) (.ret [2])) (.seq (.ops 7 (opsOf Tryd.f59 7)) (.cond (.tmp 24) (.seq (.ops 8 (opsOf Tryd.f59 8)) (.ret [2])) (.seq (.ops 9 (opsOf Tryd.f59 9)) (.cond (.tmp 31) (.ops 10 (opsOf Tryd.f59 10)) (.seq (.ops 11 (opsOf Tryd.f59 11)) (.cond (.tmp 33) .skip (.seq (.ops 4 (opsOf Tryd.f59 4)) (.ret [2]))))))))))))) R))))
noncomputable def spword.u2.f (k : Nat) (x0 : Ad) (x1 : Ad) (x2 : Int) (kn : Ad → Ad → Int → M α) (kp : V → M α) : M α :=
  ldS ((x0.add 0).add 0) fun x5 =>
  idxSl x5 0 4 fun a6 =>
  ldI .i64 ((a6.add 0).add 0) fun x7 =>
  cond (!(decide (x7 = 3))) (
    spwrong.f k x0 (fun e8 =>
      kp e8) (
      kn x0 x1 x2)) (
    kn x0 x1 x2)
noncomputable def spword.u2.c (R : IC) : IC := (.seq (.cut [0, 3, 4] (.seq (.ops 12 (opsOf Tryd.f59 12)) (.cond (.tmp 42) (.ops 13 (opsOf Tryd.f59 13)) .skip))) R)
noncomputable def spword.u3.f (k : Nat) (rr22 : Ad → (V → M α) → (Int → M α) → M α) (x0 : Ad) (x1 : Ad) (x2 : Int) (kr : Int → M α) (kp : V → M α) : M α :=
  spnext.f k x0 fun r5 r6 r7 r8 =>
  spneed.f k x0 [46] (fun e14 =>
    kp e14) (
    ldI .i64 ((x1.add 1).add 0) fun x9 =>
    rr22 x0 (fun e13 =>
      kp e13) (
      fun r10 =>
      ldI .i64 ((x1.add 1).add 0) fun y11 =>
      need (decide (x9 = y11)) <|
      spnode.f k x0 x2 r10 0 r7 x9 fun r12 =>
      kr r12))
noncomputable def spword.u3.c : IC := (.seq (.ops 14 (opsOf Tryd.f59 14)) (.seq (.ops 15 (opsOf Tryd.f59 15)) (.seq (.drawn 16 (opsOf Tryd.f59 16) true [.op 0, .op 1, .op 2, .op 4, .op 5, .op 6, .op 3, .look 6, .op 7, .op 8, .op 9]) (.ret [2]))))
noncomputable abbrev spword.u4.f (k : Nat) (rr22 : Ad → (V → M α) → (Int → M α) → M α) (x0 : Ad) (x1 : Ad) (x2 : Int) (kr : Int → M α) (kp : V → M α) : M α :=
  spword.u2.f k x0 x1 x2 (fun y0 y1 y2 => spword.u3.f k rr22 y0 y1 y2 kr kp) kp
noncomputable def spword.u4.c : IC := spword.u2.c spword.u3.c
noncomputable abbrev spword.u5.f (k : Nat) (rr22 : Ad → (V → M α) → (Int → M α) → M α) (x0 : Ad) (kr : Int → M α) (kp : V → M α) : M α :=
  spword.u1.f k x0 (fun y0 y1 y2 => spword.u4.f k rr22 y0 y1 y2 kr kp) kr kp
noncomputable def spword.u5.c : IC := spword.u1.c spword.u4.c
mutual
noncomputable def spformula.f : Nat → Ad → (V → M α) → (Int → M α) → M α
  | 0, _, _, _ => fail
  | k + 1, x0, pan, ret =>
    spformula.u1.f k (fun z0 z1 z2 z3 z4 z5 => sprow.f k z0 z1 z2 z3 z4 z5) x0 (fun y0 =>
      ret y0) pan
noncomputable def sprow.f : Nat → Ad → List UInt8 → Int → V → (V → M α) → (Int → M α) → M α
  | 0, _, _, _, _, _, _ => fail
  | k + 1, x0, x1, x2, x3, pan, ret =>
    sprow.u7.f k (fun z0 z1 z2 => spand.f k z0 z1 z2) (fun z0 z1 z2 => spunary.f k z0 z1 z2) x0 x1 x2 x3 (fun y0 =>
      ret y0) pan
noncomputable def spand.f : Nat → Ad → (V → M α) → (Int → M α) → M α
  | 0, _, _, _ => fail
  | k + 1, x0, pan, ret =>
    spand.u1.f k (fun z0 z1 z2 z3 z4 z5 => sprow.f k z0 z1 z2 z3 z4 z5) x0 (fun y0 =>
      ret y0) pan
noncomputable def spunary.f : Nat → Ad → (V → M α) → (Int → M α) → M α
  | 0, _, _, _ => fail
  | k + 1, x0, pan, ret =>
    spunary.u18.f k (fun z0 z1 z2 => spunary.f k z0 z1 z2) (fun z0 z1 z2 => spformula.f k z0 z1 z2) (fun z0 z1 z2 => spword.f k z0 z1 z2) x0 (fun y0 =>
      ret y0) pan
noncomputable def spword.f : Nat → Ad → (V → M α) → (Int → M α) → M α
  | 0, _, _, _ => fail
  | k + 1, x0, pan, ret =>
    spword.u5.f k (fun z0 z1 z2 => spformula.f k z0 z1 z2) x0 (fun y0 =>
      ret y0) pan
end
noncomputable def syntax_Parse.u1.f (k : Nat) (x0 : List UInt8) (kn : Ad → Ad → Sl → M α) (kr : Ad → Ad → M α) : M α :=
  new [.slice Sl.nil] fun f3 =>
  new [.nilIface] fun err4 =>
  scan_All.f k x0 fun r5 r6 =>
  need (Nat.beq (V.cells r6).length 1) <|
  stL err4 0 (V.cells r6) <|
  ld (err4.add 0) fun x7 =>
  asNil x7 fun b8 =>
  cond (!b8) (
    ld (err4.add 0) fun x9 =>
    st1 (f3.add 0) (.slice Sl.nil) <|
    skipped x9 (
      need (Nat.beq (V.cells x9).length 1) <|
      stL err4 0 (V.cells x9) <|
      kr f3 err4) (
      ld (err4.add 0) fun x10 =>
      lookL (V.cells x9) [x10] <|
      need (Nat.beq (V.cells x9).length 1) <|
      stL err4 0 (V.cells x9) <|
      kr f3 err4)) (
    kn f3 err4 r5)
noncomputable def syntax_Parse.u1.c (R : IC) : IC := (.seq (.ops 0 (opsOf Tryd.f9 0)) (.seq (.ops 1 (opsOf Tryd.f9 1)) (.seq (.cut [2, 3, 4] (.seq (.ops 2 (opsOf Tryd.f9 2)) (.cond (.tmp 12) (.seq (.drawn 3 (opsOf Tryd.f9 3) true [.op 0, .op 1, .look 0, .op 2]) (.ret [2, 3])) .skip))) R)))
noncomputable def syntax_Parse.u2.f (k : Nat) (x0 : Ad) (x1 : Ad) (x2 : Sl) (kr : Ad → Ad → M α) (kp : V → M α) : M α :=
  slices_DeleteFunc_Token_Token_21.f k x2 fun r5 =>
  new [.slice r5, .int .i64 0, .slice Sl.nil] fun x6 =>
  spformula.f k x6 (fun e14 =>
    kp e14) (
    fun r7 =>
    ldS ((x6.add 0).add 0) fun x8 =>
    idxSl x8 0 4 fun a9 =>
    ldI .i64 ((a9.add 0).add 0) fun x10 =>
    cond (!(decide (x10 = 0))) (
      spwrong.f k x6 (fun e12 =>
        kp e12) (
        ldS ((x6.add 2).add 0) fun x11 =>
        st1 (x0.add 0) (.slice x11) <|
        st1 (x1.add 0) (.nilIface) <|
        kr x0 x1)) (
      ldS ((x6.add 2).add 0) fun x13 =>
      st1 (x0.add 0) (.slice x13) <|
      st1 (x1.add 0) (.nilIface) <|
      kr x0 x1))
noncomputable def syntax_Parse.u2.c : IC := (.seq (.ops 5 (opsOf Tryd.f9 5)) (.seq (.ops 6 (opsOf Tryd.f9 6)) (.seq (.seq (.ops 7 (opsOf Tryd.f9 7)) (.cond (.tmp 28) (.ops 8 (opsOf Tryd.f9 8)) .skip)) (.seq (.ops 9 (opsOf Tryd.f9 9)) (.ret [2, 3])))))
noncomputable def syntax_Parse.as : List IC := [(.ops 0 (opsOf Tryd.f9 0)), (.ops 1 (opsOf Tryd.f9 1)), (.cut [2, 3, 4] (.seq (.ops 2 (opsOf Tryd.f9 2)) (.cond (.tmp 12) (.seq (.drawn 3 (opsOf Tryd.f9 3) true [.op 0, .op 1, .look 0, .op 2]) (.ret [2, 3])) .skip)))]
noncomputable def syntax_Parse.C.u1.f (k : Nat) (x0 : Ad) (x1 : Ad) (x2 : V) (kn : M α) : M α :=
  asNil x2 fun b5 =>
  cond (b5) (
    kn) (
    ifaceM x2 55 (fun w6 =>
      new [.int .i64 0, .int .i64 0] fun s7 =>
      need (Nat.beq (V.cells w6).length 2) <|
      stL s7 0 (V.cells w6) <|
      st1 (x0.add 0) (.slice Sl.nil) <|
      st1 (x1.add 0) (.iface 56 (.ptr (some (s7.add 0)))) <|
      kn) (
      fail))
noncomputable def syntax_Parse.C.u1.c : IC := (.cut [] (.block 0 (.seq (.ops 3 (opsOf Tryd.f19 3)) (.cond (.tmp 7) (.ops 4 (opsOf Tryd.f19 4)) (.seq (.ops 5 (opsOf Tryd.f19 5)) (.cond (.tmp 9) (.seq (.ops 6 (opsOf Tryd.f19 6)) (.ops 7 (opsOf Tryd.f19 7))) (.seq (.ops 1 (opsOf Tryd.f19 1)) (.dead (.region 2 (opsOf Tryd.f19 2) false)))))))))
noncomputable def syntax_Parse.f : Nat → List UInt8 → (Sl → V → M α) → M α
  | 0, _, _ => fail
  | k + 1, x0, ret =>
    syntax_Parse.u1.f k x0 (fun y0 y1 y2 =>
      syntax_Parse.u2.f k y0 y1 y2 (fun z0 z1 =>
        syntax_Parse.C.u1.f k y0 y1 .nilIface (
          ldS (z0.add 0) fun o501 =>
          ld (z1.add 0) fun o502 =>
          ret o501 o502)) (fun v =>
        syntax_Parse.C.u1.f k y0 y1 v (
          ldS (y0.add 0) fun o501 =>
          ld (y1.add 0) fun o502 =>
          ret o501 o502))) (fun y0 y1 =>
      ldS (y0.add 0) fun o501 =>
      ld (y1.add 0) fun o502 =>
      ret o501 o502)
noncomputable def errors_As.f : Nat → V → V → (Bool → M α) → M α
  | 0, _, _, _ => fail
  | _ + 1, e, t, ret => errorsAs 56 66 e t ret
noncomputable def syntax_spelt.u1.f (k : Nat) (x0 : List UInt8) (x1 : Int) (x2 : Int) (kn : List UInt8 → M α) (kr : Bool → M α) : M α :=
  cond (decide ((x0.length : Int) < 1)) (
    kr false) (
    cond (decide (8 < (x0.length : Int))) (
      kr false) (
      idxStr x0 0 fun c5 =>
      cond (decide (c5 < x1)) (
        kr false) (
        idxStr x0 0 fun c6 =>
        cond (decide (x2 < c6)) (
          kr false) (
          kn x0))))
noncomputable def syntax_spelt.u1.c (R : IC) : IC := (.seq (.ops 0 (opsOf Tryd.f41 0)) (.seq (.cut [0] (.seq (.ops 1 (opsOf Tryd.f41 1)) (.cond (.tmp 28) (.seq (.ops 2 (opsOf Tryd.f41 2)) (.ret [6])) .skip))) R))
noncomputable def syntax_spelt.u2.f (k : Nat) (x0 : List UInt8) (kn : List UInt8 → Int → Int → M α) : M α :=
  kn x0 (x0.length : Int) 0
noncomputable def syntax_spelt.u2.c (R : IC) : IC := (.seq (.cut [0, 30, 31] (.ops 3 (opsOf Tryd.f41 3))) R)
noncomputable def syntax_spelt.u3.f (k : Nat) (x0 : List UInt8) (x1 : Int) (x2 : Int) (kn : List UInt8 → Int → Int → M α) (kr : Bool → M α) (kx0 : M α) : M α :=
  cond (decide (x2 < x1)) (
    idxStr x0 x2 fun c5 =>
    cond (decide (bits .or .u8 c5 32 < 97)) (
      cond (decide (c5 < 48)) (
        cond (!(decide (c5 = 95))) (
          kr false) (
          kn x0 x1 (w64 (x2 + 1)))) (
        cond (decide (57 < c5)) (
          cond (!(decide (c5 = 95))) (
            kr false) (
            kn x0 x1 (w64 (x2 + 1)))) (
          kn x0 x1 (w64 (x2 + 1))))) (
      cond (decide (122 < bits .or .u8 c5 32)) (
        cond (decide (c5 < 48)) (
          cond (!(decide (c5 = 95))) (
            kr false) (
            kn x0 x1 (w64 (x2 + 1)))) (
          cond (decide (57 < c5)) (
            cond (!(decide (c5 = 95))) (
              kr false) (
              kn x0 x1 (w64 (x2 + 1)))) (
            kn x0 x1 (w64 (x2 + 1))))) (
        kn x0 x1 (w64 (x2 + 1))))) (
    kx0)
noncomputable def syntax_spelt.u3.c : IC := (.seq (.ops 4 (opsOf Tryd.f41 4)) (.seq (.cond (.tmp 32) .skip (.exit 0 [])) (.seq (.block 1 (.seq (.ops 5 (opsOf Tryd.f41 5)) (.seq (.ops 6 (opsOf Tryd.f41 6)) (.seq (.ops 7 (opsOf Tryd.f41 7)) (.cond (.tmp 56) (.seq (.ops 8 (opsOf Tryd.f41 8)) (.ret [6])) .skip))))) (.cut [0, 30, 31] (.ops 9 (opsOf Tryd.f41 9))))))
noncomputable def syntax_spelt.u4.l (k : Nat) (kr : Bool → M α) (kx0 : M α) : Nat → List UInt8 → Int → Int → M α
  | 0, _, _, _ => fail
  | j + 1, x0, x1, x2 =>
    syntax_spelt.u3.f k x0 x1 x2 (fun y0 y1 y2 => syntax_spelt.u4.l k kr kx0 j y0 y1 y2) kr kx0
noncomputable abbrev syntax_spelt.u4.f (k : Nat) (x0 : List UInt8) (x1 : Int) (x2 : Int) (kr : Bool → M α) (kx0 : M α) : M α :=
  syntax_spelt.u4.l k kr kx0 k x0 x1 x2
noncomputable def syntax_spelt.u4.c : IC := .loop [0, 30, 31] syntax_spelt.u3.c
noncomputable abbrev syntax_spelt.u5.f (k : Nat) (x0 : List UInt8) (x1 : Int) (x2 : Int) (kn : M α) (kr : Bool → M α) : M α :=
  syntax_spelt.u4.f k x0 x1 x2 kr (kn)
noncomputable def syntax_spelt.u5.c : IC := .block 0 syntax_spelt.u4.c
noncomputable abbrev syntax_spelt.u6.f (k : Nat) (x0 : List UInt8) (kn : M α) (kr : Bool → M α) : M α :=
  syntax_spelt.u2.f k x0 (fun y0 y1 y2 => syntax_spelt.u5.f k y0 y1 y2 kn kr)
noncomputable def syntax_spelt.u6.c : IC := syntax_spelt.u2.c syntax_spelt.u5.c
noncomputable def syntax_spelt.u7.f (k : Nat) (kr : Bool → M α) : M α :=
  kr true
noncomputable def syntax_spelt.u7.c : IC := (.seq (.ops 10 (opsOf Tryd.f41 10)) (.ret [6]))
noncomputable abbrev syntax_spelt.u8.f (k : Nat) (x0 : List UInt8) (kr : Bool → M α) : M α :=
  syntax_spelt.u6.f k x0 (syntax_spelt.u7.f k kr) kr
noncomputable def syntax_spelt.u8.c : IC := (.seq syntax_spelt.u6.c syntax_spelt.u7.c)
noncomputable abbrev syntax_spelt.u9.f (k : Nat) (x0 : List UInt8) (x1 : Int) (x2 : Int) (kr : Bool → M α) : M α :=
  syntax_spelt.u1.f k x0 x1 x2 (fun y0 => syntax_spelt.u8.f k y0 kr) kr
noncomputable def syntax_spelt.u9.c : IC := syntax_spelt.u1.c syntax_spelt.u8.c
noncomputable def syntax_spelt.f : Nat → List UInt8 → Int → Int → (Bool → M α) → M α
  | 0, _, _, _, _ => fail
  | k + 1, x0, x1, x2, ret =>
    syntax_spelt.u9.f k x0 x1 x2 (fun y0 =>
      ret y0)
noncomputable def syntax_name.u1.f (k : Nat) (x0 : List UInt8) (kr : Bool → M α) : M α :=
  syntax_spelt.f k x0 97 122 fun r3 =>
  cond (r3) (
    syntax_word.f k x0 fun r4 =>
    kr (!r4)) (
    kr false)
noncomputable def syntax_name.u1.c : IC := (.seq (.ops 0 (opsOf Tryd.f27 0)) (.seq (.ops 1 (opsOf Tryd.f27 1)) (.ret [2])))
noncomputable def syntax_name.f : Nat → List UInt8 → (Bool → M α) → M α
  | 0, _, _ => fail
  | k + 1, x0, ret =>
    syntax_name.u1.f k x0 (fun y0 =>
      ret y0)
noncomputable def syntax_variable.u1.f (k : Nat) (x0 : List UInt8) (kr : Bool → M α) : M α :=
  syntax_spelt.f k x0 65 90 fun r3 =>
  kr r3
noncomputable def syntax_variable.u1.c : IC := (.seq (.ops 0 (opsOf Tryd.f28 0)) (.seq (.ops 1 (opsOf Tryd.f28 1)) (.ret [2])))
noncomputable def syntax_variable.f : Nat → List UInt8 → (Bool → M α) → M α
  | 0, _, _ => fail
  | k + 1, x0, ret =>
    syntax_variable.u1.f k x0 (fun y0 =>
      ret y0)
noncomputable def syntax_below.u1.f (k : Nat) (x0 : Int) (x1 : Int) (x2 : Int) (x3 : List UInt8) (x4 : Int) (kr : Int → Bool → M α) : M α :=
  new [.int .i64 x0, .int .i64 x1, .int .i64 x2, .str x3, .int .i64 x4] fun n7 =>
  ldI .i64 ((n7.add 0).add 0) fun x8 =>
  cond (decide (x8 = 1)) (
    cond (decide (x8 = 1)) (
      ldStr ((n7.add 3).add 0) fun x9 =>
      kr 0 (decide (x9 = []))) (
      cond (decide (x8 = 3)) (
        ldStr ((n7.add 3).add 0) fun x10 =>
        syntax_name.f k x10 fun r11 =>
        kr 0 r11) (
        cond (decide (x8 = 4)) (
          ldStr ((n7.add 3).add 0) fun x12 =>
          syntax_variable.f k x12 fun r13 =>
          kr 0 r13) (
          cond (decide (x8 = 5)) (
            ldStr ((n7.add 3).add 0) fun x14 =>
            kr 1 (decide (x14 = []))) (
            cond (decide (x8 = 8)) (
              cond (decide (x8 = 8)) (
                ldStr ((n7.add 3).add 0) fun x15 =>
                cond (decide (x15 = [45])) (
                  kr 1 true) (
                  ldStr ((n7.add 3).add 0) fun x16 =>
                  syntax_name.f k x16 fun r17 =>
                  kr 1 r17)) (
                cond (decide (x8 = 10)) (
                  cond (decide (x8 = 10)) (
                    ldStr ((n7.add 3).add 0) fun x18 =>
                    syntax_variable.f k x18 fun r19 =>
                    kr 1 r19) (
                    cond (decide (x8 = 6)) (
                      cond (decide (x8 = 6)) (
                        ldStr ((n7.add 3).add 0) fun x20 =>
                        kr 2 (decide (x20 = []))) (
                        kr 0 false)) (
                      cond (decide (x8 = 7)) (
                        ldStr ((n7.add 3).add 0) fun x21 =>
                        kr 2 (decide (x21 = []))) (
                        kr 0 false)))) (
                  cond (decide (x8 = 11)) (
                    ldStr ((n7.add 3).add 0) fun x22 =>
                    syntax_variable.f k x22 fun r23 =>
                    kr 1 r23) (
                    cond (decide (x8 = 6)) (
                      cond (decide (x8 = 6)) (
                        ldStr ((n7.add 3).add 0) fun x24 =>
                        kr 2 (decide (x24 = []))) (
                        kr 0 false)) (
                      cond (decide (x8 = 7)) (
                        ldStr ((n7.add 3).add 0) fun x25 =>
                        kr 2 (decide (x25 = []))) (
                        kr 0 false)))))) (
              cond (decide (x8 = 9)) (
                ldStr ((n7.add 3).add 0) fun x26 =>
                cond (decide (x26 = [45])) (
                  kr 1 true) (
                  ldStr ((n7.add 3).add 0) fun x27 =>
                  syntax_name.f k x27 fun r28 =>
                  kr 1 r28)) (
                cond (decide (x8 = 10)) (
                  cond (decide (x8 = 10)) (
                    ldStr ((n7.add 3).add 0) fun x29 =>
                    syntax_variable.f k x29 fun r30 =>
                    kr 1 r30) (
                    cond (decide (x8 = 6)) (
                      cond (decide (x8 = 6)) (
                        ldStr ((n7.add 3).add 0) fun x31 =>
                        kr 2 (decide (x31 = []))) (
                        kr 0 false)) (
                      cond (decide (x8 = 7)) (
                        ldStr ((n7.add 3).add 0) fun x32 =>
                        kr 2 (decide (x32 = []))) (
                        kr 0 false)))) (
                  cond (decide (x8 = 11)) (
                    ldStr ((n7.add 3).add 0) fun x33 =>
                    syntax_variable.f k x33 fun r34 =>
                    kr 1 r34) (
                    cond (decide (x8 = 6)) (
                      cond (decide (x8 = 6)) (
                        ldStr ((n7.add 3).add 0) fun x35 =>
                        kr 2 (decide (x35 = []))) (
                        kr 0 false)) (
                      cond (decide (x8 = 7)) (
                        ldStr ((n7.add 3).add 0) fun x36 =>
                        kr 2 (decide (x36 = []))) (
                        kr 0 false))))))))))) (
    cond (decide (x8 = 2)) (
      ldStr ((n7.add 3).add 0) fun x37 =>
      kr 0 (decide (x37 = []))) (
      cond (decide (x8 = 3)) (
        ldStr ((n7.add 3).add 0) fun x38 =>
        syntax_name.f k x38 fun r39 =>
        kr 0 r39) (
        cond (decide (x8 = 4)) (
          ldStr ((n7.add 3).add 0) fun x40 =>
          syntax_variable.f k x40 fun r41 =>
          kr 0 r41) (
          cond (decide (x8 = 5)) (
            ldStr ((n7.add 3).add 0) fun x42 =>
            kr 1 (decide (x42 = []))) (
            cond (decide (x8 = 8)) (
              cond (decide (x8 = 8)) (
                ldStr ((n7.add 3).add 0) fun x43 =>
                cond (decide (x43 = [45])) (
                  kr 1 true) (
                  ldStr ((n7.add 3).add 0) fun x44 =>
                  syntax_name.f k x44 fun r45 =>
                  kr 1 r45)) (
                cond (decide (x8 = 10)) (
                  cond (decide (x8 = 10)) (
                    ldStr ((n7.add 3).add 0) fun x46 =>
                    syntax_variable.f k x46 fun r47 =>
                    kr 1 r47) (
                    cond (decide (x8 = 6)) (
                      cond (decide (x8 = 6)) (
                        ldStr ((n7.add 3).add 0) fun x48 =>
                        kr 2 (decide (x48 = []))) (
                        kr 0 false)) (
                      cond (decide (x8 = 7)) (
                        ldStr ((n7.add 3).add 0) fun x49 =>
                        kr 2 (decide (x49 = []))) (
                        kr 0 false)))) (
                  cond (decide (x8 = 11)) (
                    ldStr ((n7.add 3).add 0) fun x50 =>
                    syntax_variable.f k x50 fun r51 =>
                    kr 1 r51) (
                    cond (decide (x8 = 6)) (
                      cond (decide (x8 = 6)) (
                        ldStr ((n7.add 3).add 0) fun x52 =>
                        kr 2 (decide (x52 = []))) (
                        kr 0 false)) (
                      cond (decide (x8 = 7)) (
                        ldStr ((n7.add 3).add 0) fun x53 =>
                        kr 2 (decide (x53 = []))) (
                        kr 0 false)))))) (
              cond (decide (x8 = 9)) (
                ldStr ((n7.add 3).add 0) fun x54 =>
                cond (decide (x54 = [45])) (
                  kr 1 true) (
                  ldStr ((n7.add 3).add 0) fun x55 =>
                  syntax_name.f k x55 fun r56 =>
                  kr 1 r56)) (
                cond (decide (x8 = 10)) (
                  cond (decide (x8 = 10)) (
                    ldStr ((n7.add 3).add 0) fun x57 =>
                    syntax_variable.f k x57 fun r58 =>
                    kr 1 r58) (
                    cond (decide (x8 = 6)) (
                      cond (decide (x8 = 6)) (
                        ldStr ((n7.add 3).add 0) fun x59 =>
                        kr 2 (decide (x59 = []))) (
                        kr 0 false)) (
                      cond (decide (x8 = 7)) (
                        ldStr ((n7.add 3).add 0) fun x60 =>
                        kr 2 (decide (x60 = []))) (
                        kr 0 false)))) (
                  cond (decide (x8 = 11)) (
                    ldStr ((n7.add 3).add 0) fun x61 =>
                    syntax_variable.f k x61 fun r62 =>
                    kr 1 r62) (
                    cond (decide (x8 = 6)) (
                      cond (decide (x8 = 6)) (
                        ldStr ((n7.add 3).add 0) fun x63 =>
                        kr 2 (decide (x63 = []))) (
                        kr 0 false)) (
                      cond (decide (x8 = 7)) (
                        ldStr ((n7.add 3).add 0) fun x64 =>
                        kr 2 (decide (x64 = []))) (
                        kr 0 false)))))))))))
noncomputable def syntax_below.u1.c : IC := (.seq (.ops 0 (opsOf Tryd.f14 0)) (.seq (.seq (.ops 1 (opsOf Tryd.f14 1)) (.block 0 (.seq (.seq (.ops 2 (opsOf Tryd.f14 2)) (.cond (.tmp 6) .skip (.ops 3 (opsOf Tryd.f14 3)))) (.cond (.tmp 6) (.seq (.drawn 4 (opsOf Tryd.f14 4) true [.op 0, .op 1, .op 2, .op 3, .op 4]) (.ret [2, 3])) (.seq (.ops 5 (opsOf Tryd.f14 5)) (.cond (.tmp 12) (.seq (.ops 6 (opsOf Tryd.f14 6)) (.ret [2, 3])) (.seq (.ops 7 (opsOf Tryd.f14 7)) (.cond (.tmp 17) (.seq (.ops 8 (opsOf Tryd.f14 8)) (.ret [2, 3])) (.seq (.ops 9 (opsOf Tryd.f14 9)) (.cond (.tmp 22) (.seq (.drawn 10 (opsOf Tryd.f14 10) true [.op 0, .op 1, .op 2, .op 3, .op 4]) (.ret [2, 3])) (.seq (.seq (.ops 11 (opsOf Tryd.f14 11)) (.cond (.tmp 27) .skip (.ops 12 (opsOf Tryd.f14 12)))) (.cond (.tmp 27) (.seq (.ops 13 (opsOf Tryd.f14 13)) (.ret [2, 3])) (.seq (.seq (.ops 14 (opsOf Tryd.f14 14)) (.cond (.tmp 38) .skip (.ops 15 (opsOf Tryd.f14 15)))) (.cond (.tmp 38) (.seq (.ops 16 (opsOf Tryd.f14 16)) (.ret [2, 3])) (.seq (.seq (.ops 17 (opsOf Tryd.f14 17)) (.cond (.tmp 44) .skip (.ops 18 (opsOf Tryd.f14 18)))) (.cond (.tmp 44) (.seq (.drawn 19 (opsOf Tryd.f14 19) true [.op 0, .op 1, .op 2, .op 3, .op 4]) (.ret [2, 3])) .skip)))))))))))))))) (.seq (.ops 20 (opsOf Tryd.f14 20)) (.ret [2, 3]))))
noncomputable def syntax_below.f : Nat → Int → Int → Int → List UInt8 → Int → (Int → Bool → M α) → M α
  | 0, _, _, _, _, _, _ => fail
  | k + 1, x0, x1, x2, x3, x4, ret =>
    syntax_below.u1.f k x0 x1 x2 x3 x4 (fun y0 y1 =>
      ret y0 y1)
noncomputable def syntax_Right_c1.u1.f (k : Nat) (x0 : Int) (kr : Bool → M α) : M α :=
  kr (!(decide (x0 = 0)))
noncomputable def syntax_Right_c1.u1.c : IC := (.seq (.ops 0 (opsOf Tryd.f16 0)) (.seq (.ops 1 (opsOf Tryd.f16 1)) (.ret [2])))
noncomputable def syntax_Right_c1.f : Nat → Int → (Bool → M α) → M α
  | 0, _, _ => fail
  | k + 1, x0, ret =>
    syntax_Right_c1.u1.f k x0 (fun y0 =>
      ret y0)
noncomputable def slices_IndexFunc_int_int_16.u1.f (k : Nat) (x0 : Sl) (kn : Sl → M α) : M α :=
  kn x0
noncomputable def slices_IndexFunc_int_int_16.u1.c (R : IC) : IC := (.seq (.cut [0, 1] (.ops 0 (opsOf Tryd.f29 0))) R)
noncomputable def slices_IndexFunc_int_int_16.u2.f (k : Nat) (x0 : Sl) (kn : Sl → Int → Int → M α) : M α :=
  kn x0 (x0.len : Int) 0
noncomputable def slices_IndexFunc_int_int_16.u2.c (R : IC) : IC := (.seq (.cut [0, 1, 7, 8] (.ops 1 (opsOf Tryd.f29 1))) R)
noncomputable def slices_IndexFunc_int_int_16.u3.f (k : Nat) (x0 : Sl) (x1 : Int) (x2 : Int) (kn : Sl → Int → Int → M α) (kr : Int → M α) (kx0 : M α) : M α :=
  cond (decide (x2 < x1)) (
    idxSl x0 x2 1 fun a5 =>
    ldI .i64 (a5.add 0) fun x6 =>
    syntax_Right_c1.f k x6 fun r7 =>
    cond (r7) (
      kr x2) (
      kn x0 x1 (w64 (x2 + 1)))) (
    kx0)
noncomputable def slices_IndexFunc_int_int_16.u3.c : IC := (.seq (.ops 2 (opsOf Tryd.f29 2)) (.seq (.cond (.tmp 9) .skip (.exit 0 [])) (.seq (.block 1 (.seq (.ops 3 (opsOf Tryd.f29 3)) (.seq (.ops 4 (opsOf Tryd.f29 4)) (.cond (.tmp 16) (.seq (.ops 5 (opsOf Tryd.f29 5)) (.ret [4])) .skip)))) (.cut [0, 1, 7, 8] (.ops 6 (opsOf Tryd.f29 6))))))
noncomputable def slices_IndexFunc_int_int_16.u4.l (k : Nat) (kr : Int → M α) (kx0 : M α) : Nat → Sl → Int → Int → M α
  | 0, _, _, _ => fail
  | j + 1, x0, x1, x2 =>
    slices_IndexFunc_int_int_16.u3.f k x0 x1 x2 (fun y0 y1 y2 => slices_IndexFunc_int_int_16.u4.l k kr kx0 j y0 y1 y2) kr kx0
noncomputable abbrev slices_IndexFunc_int_int_16.u4.f (k : Nat) (x0 : Sl) (x1 : Int) (x2 : Int) (kr : Int → M α) (kx0 : M α) : M α :=
  slices_IndexFunc_int_int_16.u4.l k kr kx0 k x0 x1 x2
noncomputable def slices_IndexFunc_int_int_16.u4.c : IC := .loop [0, 1, 7, 8] slices_IndexFunc_int_int_16.u3.c
noncomputable abbrev slices_IndexFunc_int_int_16.u5.f (k : Nat) (x0 : Sl) (x1 : Int) (x2 : Int) (kn : M α) (kr : Int → M α) : M α :=
  slices_IndexFunc_int_int_16.u4.f k x0 x1 x2 kr (kn)
noncomputable def slices_IndexFunc_int_int_16.u5.c : IC := .block 0 slices_IndexFunc_int_int_16.u4.c
noncomputable abbrev slices_IndexFunc_int_int_16.u6.f (k : Nat) (x0 : Sl) (kn : M α) (kr : Int → M α) : M α :=
  slices_IndexFunc_int_int_16.u2.f k x0 (fun y0 y1 y2 => slices_IndexFunc_int_int_16.u5.f k y0 y1 y2 kn kr)
noncomputable def slices_IndexFunc_int_int_16.u6.c : IC := slices_IndexFunc_int_int_16.u2.c slices_IndexFunc_int_int_16.u5.c
noncomputable def slices_IndexFunc_int_int_16.u7.f (k : Nat) (kr : Int → M α) : M α :=
  kr (-1)
noncomputable def slices_IndexFunc_int_int_16.u7.c : IC := (.seq (.ops 7 (opsOf Tryd.f29 7)) (.ret [4]))
noncomputable abbrev slices_IndexFunc_int_int_16.u8.f (k : Nat) (x0 : Sl) (kr : Int → M α) : M α :=
  slices_IndexFunc_int_int_16.u6.f k x0 (slices_IndexFunc_int_int_16.u7.f k kr) kr
noncomputable def slices_IndexFunc_int_int_16.u8.c : IC := (.seq slices_IndexFunc_int_int_16.u6.c slices_IndexFunc_int_int_16.u7.c)
noncomputable abbrev slices_IndexFunc_int_int_16.u9.f (k : Nat) (x0 : Sl) (kr : Int → M α) : M α :=
  slices_IndexFunc_int_int_16.u1.f k x0 (fun y0 => slices_IndexFunc_int_int_16.u8.f k y0 kr)
noncomputable def slices_IndexFunc_int_int_16.u9.c : IC := slices_IndexFunc_int_int_16.u1.c slices_IndexFunc_int_int_16.u8.c
noncomputable def slices_IndexFunc_int_int_16.f : Nat → Sl → (Int → M α) → M α
  | 0, _, _ => fail
  | k + 1, x0, ret =>
    slices_IndexFunc_int_int_16.u9.f k x0 (fun y0 =>
      ret y0)
noncomputable def slices_ContainsFunc_int_int_16.u1.f (k : Nat) (x0 : Sl) (kr : Bool → M α) : M α :=
  slices_IndexFunc_int_int_16.f k x0 fun r3 =>
  kr (decide (0 ≤ r3))
noncomputable def slices_ContainsFunc_int_int_16.u1.c : IC := (.seq (.ops 0 (opsOf Tryd.f15 0)) (.seq (.ops 1 (opsOf Tryd.f15 1)) (.ret [4])))
noncomputable def slices_ContainsFunc_int_int_16.f : Nat → Sl → (Bool → M α) → M α
  | 0, _, _ => fail
  | k + 1, x0, ret =>
    slices_ContainsFunc_int_int_16.u1.f k x0 (fun y0 =>
      ret y0)
noncomputable def slEq.u1.f (k : Nat) (x0 : Sl) (x1 : Sl) (kn : Sl → Sl → M α) (kr : Bool → M α) : M α :=
  cond (!(decide ((x0.len : Int) = (x1.len : Int)))) (
    kr false) (
    kn x0 x1)
noncomputable def slEq.u1.c (R : IC) : IC := (.seq (.ops 0 (opsOf Tryd.f17 0)) (.seq (.cut [0, 1] (.seq (.ops 1 (opsOf Tryd.f17 1)) (.cond (.tmp 10) (.seq (.ops 2 (opsOf Tryd.f17 2)) (.ret [4])) .skip))) R))
noncomputable def slEq.u2.f (k : Nat) (x0 : Sl) (x1 : Sl) (kn : Sl → Sl → Int → Int → M α) : M α :=
  kn x0 x1 (x0.len : Int) 0
noncomputable def slEq.u2.c (R : IC) : IC := (.seq (.cut [0, 1, 12, 13] (.ops 3 (opsOf Tryd.f17 3))) R)
noncomputable def slEq.u3.f (k : Nat) (x0 : Sl) (x1 : Sl) (x2 : Int) (x3 : Int) (kn : Sl → Sl → Int → Int → M α) (kr : Bool → M α) (kx0 : M α) : M α :=
  cond (decide (x3 < x2)) (
    idxSl x0 x3 1 fun a6 =>
    ldI .i64 (a6.add 0) fun x7 =>
    idxSl x1 x3 1 fun a8 =>
    ldI .i64 (a8.add 0) fun x9 =>
    cond (!(decide (x7 = x9))) (
      kr false) (
      kn x0 x1 x2 (w64 (x3 + 1)))) (
    kx0)
noncomputable def slEq.u3.c : IC := (.seq (.ops 4 (opsOf Tryd.f17 4)) (.seq (.cond (.tmp 14) .skip (.exit 0 [])) (.seq (.block 1 (.seq (.ops 5 (opsOf Tryd.f17 5)) (.seq (.drawn 6 (opsOf Tryd.f17 6) true [.op 0, .op 1, .op 2, .op 3, .op 4, .op 5, .op 6, .op 7, .op 8]) (.cond (.tmp 24) (.seq (.ops 7 (opsOf Tryd.f17 7)) (.ret [4])) .skip)))) (.cut [0, 1, 12, 13] (.ops 8 (opsOf Tryd.f17 8))))))
noncomputable def slEq.u4.l (k : Nat) (kr : Bool → M α) (kx0 : M α) : Nat → Sl → Sl → Int → Int → M α
  | 0, _, _, _, _ => fail
  | j + 1, x0, x1, x2, x3 =>
    slEq.u3.f k x0 x1 x2 x3 (fun y0 y1 y2 y3 => slEq.u4.l k kr kx0 j y0 y1 y2 y3) kr kx0
noncomputable abbrev slEq.u4.f (k : Nat) (x0 : Sl) (x1 : Sl) (x2 : Int) (x3 : Int) (kr : Bool → M α) (kx0 : M α) : M α :=
  slEq.u4.l k kr kx0 k x0 x1 x2 x3
noncomputable def slEq.u4.c : IC := .loop [0, 1, 12, 13] slEq.u3.c
noncomputable abbrev slEq.u5.f (k : Nat) (x0 : Sl) (x1 : Sl) (x2 : Int) (x3 : Int) (kn : M α) (kr : Bool → M α) : M α :=
  slEq.u4.f k x0 x1 x2 x3 kr (kn)
noncomputable def slEq.u5.c : IC := .block 0 slEq.u4.c
noncomputable abbrev slEq.u6.f (k : Nat) (x0 : Sl) (x1 : Sl) (kn : M α) (kr : Bool → M α) : M α :=
  slEq.u2.f k x0 x1 (fun y0 y1 y2 y3 => slEq.u5.f k y0 y1 y2 y3 kn kr)
noncomputable def slEq.u6.c : IC := slEq.u2.c slEq.u5.c
noncomputable def slEq.u7.f (k : Nat) (kr : Bool → M α) : M α :=
  kr true
noncomputable def slEq.u7.c : IC := (.seq (.ops 9 (opsOf Tryd.f17 9)) (.ret [4]))
noncomputable abbrev slEq.u8.f (k : Nat) (x0 : Sl) (x1 : Sl) (kr : Bool → M α) : M α :=
  slEq.u6.f k x0 x1 (slEq.u7.f k kr) kr
noncomputable def slEq.u8.c : IC := (.seq slEq.u6.c slEq.u7.c)
noncomputable abbrev slEq.u9.f (k : Nat) (x0 : Sl) (x1 : Sl) (kr : Bool → M α) : M α :=
  slEq.u1.f k x0 x1 (fun y0 y1 => slEq.u8.f k y0 y1 kr) kr
noncomputable def slEq.u9.c : IC := slEq.u1.c slEq.u8.c
noncomputable def slEq.f : Nat → Sl → Sl → (Bool → M α) → M α
  | 0, _, _, _ => fail
  | k + 1, x0, x1, ret =>
    slEq.u9.f k x0 x1 (fun y0 =>
      ret y0)
noncomputable def syntax_Right.u1.f (k : Nat) (x0 : Sl) (kn : Sl → Sl → M α) (kr : Bool → M α) : M α :=
  cond (decide ((x0.len : Int) < 1)) (
    kr false) (
    cond (decide (60 < (x0.len : Int))) (
      kr false) (
      kn x0 Sl.nil))
noncomputable def syntax_Right.u1.c (R : IC) : IC := (.seq (.ops 0 (opsOf Tryd.f8 0)) (.seq (.seq (.ops 1 (opsOf Tryd.f8 1)) (.cond (.tmp 16) (.seq (.ops 2 (opsOf Tryd.f8 2)) (.ret [2])) .skip)) (.seq (.cut [0, 3] (.ops 3 (opsOf Tryd.f8 3))) R)))
noncomputable def syntax_Right.u2.f (k : Nat) (x0 : Sl) (x1 : Sl) (kn : Sl → Sl → Int → Int → M α) : M α :=
  kn x1 x0 (x0.len : Int) 0
noncomputable def syntax_Right.u2.c (R : IC) : IC := (.seq (.cut [3, 17, 18, 19] (.ops 4 (opsOf Tryd.f8 4))) R)
noncomputable def syntax_Right.u3.f (k : Nat) (x0 : Sl) (x1 : Sl) (x2 : Int) (x3 : Int) (kn : Sl → Sl → Int → Int → M α) (kr : Bool → M α) (kx0 : Sl → M α) : M α :=
  cond (decide (x3 < x2)) (
    idxSl x1 x3 5 fun a6 =>
    ldI .i64 (a6.add 0) fun x7 =>
    ldI .i64 (a6.add 1) fun x8 =>
    ldI .i64 (a6.add 2) fun x9 =>
    ldStr (a6.add 3) fun x10 =>
    ldI .i64 (a6.add 4) fun x11 =>
    new [.int .i64 0, .int .i64 0, .int .i64 0, .str [], .int .i64 0] fun n12 =>
    st1 (n12.add 0) (.int .i64 x7) <|
    st1 (n12.add 1) (.int .i64 x8) <|
    st1 (n12.add 2) (.int .i64 x9) <|
    st1 (n12.add 3) (.str x10) <|
    st1 (n12.add 4) (.int .i64 x11) <|
    ldI .i64 (n12.add 0) fun x13 =>
    ldI .i64 (n12.add 1) fun x14 =>
    ldI .i64 (n12.add 2) fun x15 =>
    ldStr (n12.add 3) fun x16 =>
    ldI .i64 (n12.add 4) fun x17 =>
    syntax_below.f k x13 x14 x15 x16 x17 fun r18 r19 =>
    cond (!r19) (
      kr false) (
      cond (decide ((x0.len : Int) < r18)) (
        kr false) (
        ldI .i64 ((n12.add 1).add 0) fun x20 =>
        ldI .i64 ((n12.add 2).add 0) fun x21 =>
        new [.int .i64 x20, .int .i64 x21] fun r22 =>
        cutSl (⟨some r22, 2, 2, none⟩ : Sl) 1 (some r18) none none fun x23 =>
        slices_ContainsFunc_int_int_16.f k x23 fun r24 =>
        cond (r24) (
          kr false) (
          cutSl x0 1 (some (w64 ((x0.len : Int) - r18))) none none fun x25 =>
          cutSl (⟨some r22, 2, 2, none⟩ : Sl) 1 none (some r18) none fun x26 =>
          slEq.f k x25 x26 fun r27 =>
          cond (!r27) (
            kr false) (
            cutSl x0 1 none (some (w64 ((x0.len : Int) - r18))) none fun x28 =>
            new [.int .i64 x3] fun r29 =>
            appRow x28 1 8 (⟨some r29, 1, 1, none⟩ : Sl) fun x30 =>
            kn x30 x1 x2 (w64 (x3 + 1))))))) (
    kx0 x0)
noncomputable def syntax_Right.u3.c : IC := (.seq (.ops 5 (opsOf Tryd.f8 5)) (.seq (.cond (.tmp 20) .skip (.exit 0 [3])) (.seq (.block 1 (.seq (.ops 6 (opsOf Tryd.f8 6)) (.seq (.ops 7 (opsOf Tryd.f8 7)) (.seq (.seq (.ops 8 (opsOf Tryd.f8 8)) (.cond (.tmp 36) (.seq (.ops 9 (opsOf Tryd.f8 9)) (.ret [2])) .skip)) (.seq (.ops 10 (opsOf Tryd.f8 10)) (.seq (.seq (.drawn 11 (opsOf Tryd.f8 11) true [.op 0, .op 1, .op 2, .op 3, .op 4, .op 5, .op 6, .op 7, .op 8, .op 9, .op 10, .op 11, .op 12, .op 13, .op 14, .op 15, .op 16]) (.cond (.tmp 58) (.seq (.ops 12 (opsOf Tryd.f8 12)) (.ret [2])) .skip)) (.ops 13 (opsOf Tryd.f8 13)))))))) (.cut [3, 17, 18, 19] (.ops 14 (opsOf Tryd.f8 14))))))
noncomputable def syntax_Right.u4.l (k : Nat) (kr : Bool → M α) (kx0 : Sl → M α) : Nat → Sl → Sl → Int → Int → M α
  | 0, _, _, _, _ => fail
  | j + 1, x0, x1, x2, x3 =>
    syntax_Right.u3.f k x0 x1 x2 x3 (fun y0 y1 y2 y3 => syntax_Right.u4.l k kr kx0 j y0 y1 y2 y3) kr kx0
noncomputable abbrev syntax_Right.u4.f (k : Nat) (x0 : Sl) (x1 : Sl) (x2 : Int) (x3 : Int) (kr : Bool → M α) (kx0 : Sl → M α) : M α :=
  syntax_Right.u4.l k kr kx0 k x0 x1 x2 x3
noncomputable def syntax_Right.u4.c : IC := .loop [3, 17, 18, 19] syntax_Right.u3.c
noncomputable abbrev syntax_Right.u5.f (k : Nat) (x0 : Sl) (x1 : Sl) (x2 : Int) (x3 : Int) (kn : Sl → M α) (kr : Bool → M α) : M α :=
  syntax_Right.u4.f k x0 x1 x2 x3 kr (fun y0 => kn y0)
noncomputable def syntax_Right.u5.c : IC := .block 0 syntax_Right.u4.c
noncomputable abbrev syntax_Right.u6.f (k : Nat) (x0 : Sl) (x1 : Sl) (kn : Sl → M α) (kr : Bool → M α) : M α :=
  syntax_Right.u2.f k x0 x1 (fun y0 y1 y2 y3 => syntax_Right.u5.f k y0 y1 y2 y3 kn kr)
noncomputable def syntax_Right.u6.c : IC := syntax_Right.u2.c syntax_Right.u5.c
noncomputable def syntax_Right.u7.f (k : Nat) (x0 : Sl) (kr : Bool → M α) : M α :=
  kr (decide ((x0.len : Int) = 1))
noncomputable def syntax_Right.u7.c : IC := (.seq (.ops 15 (opsOf Tryd.f8 15)) (.ret [2]))
noncomputable abbrev syntax_Right.u8.f (k : Nat) (x0 : Sl) (x1 : Sl) (kr : Bool → M α) : M α :=
  syntax_Right.u6.f k x0 x1 (fun y0 => syntax_Right.u7.f k y0 kr) kr
noncomputable def syntax_Right.u8.c : IC := (.seq syntax_Right.u6.c syntax_Right.u7.c)
noncomputable abbrev syntax_Right.u9.f (k : Nat) (x0 : Sl) (kr : Bool → M α) : M α :=
  syntax_Right.u1.f k x0 (fun y0 y1 => syntax_Right.u8.f k y0 y1 kr) kr
noncomputable def syntax_Right.u9.c : IC := syntax_Right.u1.c syntax_Right.u8.c
noncomputable def syntax_Right.f : Nat → Sl → (Bool → M α) → M α
  | 0, _, _ => fail
  | k + 1, x0, ret =>
    syntax_Right.u9.f k x0 (fun y0 =>
      ret y0)
noncomputable def strings_Builder_WriteString.u1.f (k : Nat) (x0 : Ad) (x1 : List UInt8) (kr : Int → M α) : M α :=
  builder_copyCheck.f k x0 (
    ldS ((x0.add 1).add 0) fun x4 =>
    appStrT 5 x4 x1 fun x5 =>
    st1 ((x0.add 1).add 0) (.slice x5) <|
    kr (x1.length : Int))
noncomputable def strings_Builder_WriteString.u1.c : IC := (.seq (.ops 0 (opsOf Tryd.f25 0)) (.seq (.ops 1 (opsOf Tryd.f25 1)) (.seq (.ops 2 (opsOf Tryd.f25 2)) (.seq (.ops 3 (opsOf Tryd.f25 3)) (.ret [4, 5])))))
noncomputable def strings_Builder_WriteString.f : Nat → Ad → List UInt8 → (Int → V → M α) → M α
  | 0, _, _, _ => fail
  | k + 1, x0, x1, ret =>
    strings_Builder_WriteString.u1.f k x0 x1 (fun y0 =>
      ret y0 .nilIface)
noncomputable def syntax_fix.u1.f (k : Nat) (x0 : Int) (kr : Bool → M α) : M α :=
  cond (decide (x0 = 10)) (
    kr true) (
    kr (decide (x0 = 11)))
noncomputable def syntax_fix.u1.c : IC := (.seq (.ops 0 (opsOf Tryd.f40 0)) (.seq (.ops 1 (opsOf Tryd.f40 1)) (.ret [2])))
noncomputable def syntax_fix.f : Nat → Int → (Bool → M α) → M α
  | 0, _, _ => fail
  | k + 1, x0, ret =>
    syntax_fix.u1.f k x0 (fun y0 =>
      ret y0)
noncomputable def syntax_write.u1.f (k : Nat) (rr26 : Ad → Sl → Int → Int → Bool → (M α) → M α) (x0 : Ad) (x1 : Sl) (x2 : Int) (kn : Ad → Sl → Ad → M α) (kr : M α) : M α :=
  idxSl x1 x2 5 fun a5 =>
  ldI .i64 (a5.add 0) fun x6 =>
  ldI .i64 (a5.add 1) fun x7 =>
  ldI .i64 (a5.add 2) fun x8 =>
  ldStr (a5.add 3) fun x9 =>
  ldI .i64 (a5.add 4) fun x10 =>
  new [.int .i64 0, .int .i64 0, .int .i64 0, .str [], .int .i64 0] fun x11 =>
  st1 (x11.add 0) (.int .i64 x6) <|
  st1 (x11.add 1) (.int .i64 x7) <|
  st1 (x11.add 2) (.int .i64 x8) <|
  st1 (x11.add 3) (.str x9) <|
  st1 (x11.add 4) (.int .i64 x10) <|
  ldI .i64 ((x11.add 0).add 0) fun x12 =>
  cond (decide (x12 = 1)) (
    strings_Builder_WriteString.f k x0 [116, 116] fun r13 r14 =>
    kn x0 x1 x11) (
    cond (decide (x12 = 2)) (
      strings_Builder_WriteString.f k x0 [102, 102] fun r15 r16 =>
      kn x0 x1 x11) (
      cond (decide (x12 = 5)) (
        strings_Builder_WriteString.f k x0 [126] fun r17 r18 =>
        kn x0 x1 x11) (
        cond (decide (x12 = 8)) (
          ldStr ((x11.add 3).add 0) fun x19 =>
          cat [60] x19 fun x20 =>
          cat x20 [62] fun x21 =>
          strings_Builder_WriteString.f k x0 x21 fun r22 r23 =>
          kn x0 x1 x11) (
          cond (decide (x12 = 9)) (
            ldStr ((x11.add 3).add 0) fun x24 =>
            cat [91] x24 fun x25 =>
            cat x25 [93] fun x26 =>
            strings_Builder_WriteString.f k x0 x26 fun r27 r28 =>
            kn x0 x1 x11) (
            cond (decide (x12 = 10)) (
              ldStr ((x11.add 3).add 0) fun x29 =>
              cat [109, 117, 32] x29 fun x30 =>
              cat x30 [46, 32] fun x31 =>
              strings_Builder_WriteString.f k x0 x31 fun r32 r33 =>
              kn x0 x1 x11) (
              cond (decide (x12 = 11)) (
                ldStr ((x11.add 3).add 0) fun x34 =>
                cat [110, 117, 32] x34 fun x35 =>
                cat x35 [46, 32] fun x36 =>
                strings_Builder_WriteString.f k x0 x36 fun r37 r38 =>
                kn x0 x1 x11) (
                cond (decide (x12 = 6)) (
                  cond (decide (x12 = 6)) (
                    ldI .i64 ((x11.add 1).add 0) fun x39 =>
                    ldI .i64 ((x11.add 0).add 0) fun x40 =>
                    rr26 x0 x1 x39 x40 true (
                      ldI .i64 ((x11.add 0).add 0) fun x41 =>
                      cond (decide (x41 = 7)) (
                        strings_Builder_WriteString.f k x0 [32, 124, 32] fun r42 r43 =>
                        ldI .i64 ((x11.add 2).add 0) fun x44 =>
                        ldI .i64 ((x11.add 0).add 0) fun x45 =>
                        rr26 x0 x1 x44 x45 false (
                          kr)) (
                        strings_Builder_WriteString.f k x0 [32, 38, 32] fun r46 r47 =>
                        ldI .i64 ((x11.add 2).add 0) fun x48 =>
                        ldI .i64 ((x11.add 0).add 0) fun x49 =>
                        rr26 x0 x1 x48 x49 false (
                          kr)))) (
                    ldStr ((x11.add 3).add 0) fun x50 =>
                    strings_Builder_WriteString.f k x0 x50 fun r51 r52 =>
                    kn x0 x1 x11)) (
                  cond (decide (x12 = 7)) (
                    ldI .i64 ((x11.add 1).add 0) fun x53 =>
                    ldI .i64 ((x11.add 0).add 0) fun x54 =>
                    rr26 x0 x1 x53 x54 true (
                      ldI .i64 ((x11.add 0).add 0) fun x55 =>
                      cond (decide (x55 = 7)) (
                        strings_Builder_WriteString.f k x0 [32, 124, 32] fun r56 r57 =>
                        ldI .i64 ((x11.add 2).add 0) fun x58 =>
                        ldI .i64 ((x11.add 0).add 0) fun x59 =>
                        rr26 x0 x1 x58 x59 false (
                          kr)) (
                        strings_Builder_WriteString.f k x0 [32, 38, 32] fun r60 r61 =>
                        ldI .i64 ((x11.add 2).add 0) fun x62 =>
                        ldI .i64 ((x11.add 0).add 0) fun x63 =>
                        rr26 x0 x1 x62 x63 false (
                          kr)))) (
                    ldStr ((x11.add 3).add 0) fun x64 =>
                    strings_Builder_WriteString.f k x0 x64 fun r65 r66 =>
                    kn x0 x1 x11)))))))))
noncomputable def syntax_write.u1.c (R : IC) : IC := (.seq (.ops 0 (opsOf Tryd.f12 0)) (.seq (.cut [0, 1, 6] (.seq (.ops 1 (opsOf Tryd.f12 1)) (.block 0 (.seq (.ops 3 (opsOf Tryd.f12 3)) (.cond (.tmp 20) (.ops 4 (opsOf Tryd.f12 4)) (.seq (.ops 5 (opsOf Tryd.f12 5)) (.cond (.tmp 24) (.ops 6 (opsOf Tryd.f12 6)) (.seq (.ops 7 (opsOf Tryd.f12 7)) (.cond (.tmp 28) (.ops 8 (opsOf Tryd.f12 8)) (.seq (.ops 9 (opsOf Tryd.f12 9)) (.cond (.tmp 32) (.ops 10 (opsOf Tryd.f12 10)) (.seq (.ops 11 (opsOf Tryd.f12 11)) (.cond (.tmp 40) (.ops 12 (opsOf Tryd.f12 12)) (.seq (.ops 13 (opsOf Tryd.f12 13)) (.cond (.tmp 48) (.ops 14 (opsOf Tryd.f12 14)) (.seq (.ops 15 (opsOf Tryd.f12 15)) (.cond (.tmp 56) (.ops 16 (opsOf Tryd.f12 16)) (.seq (.seq (.ops 17 (opsOf Tryd.f12 17)) (.cond (.tmp 64) .skip (.ops 18 (opsOf Tryd.f12 18)))) (.cond (.tmp 64) (.seq (.ops 19 (opsOf Tryd.f12 19)) (.seq (.ops 20 (opsOf Tryd.f12 20)) (.seq (.seq (.ops 21 (opsOf Tryd.f12 21)) (.cond (.tmp 76) (.ops 22 (opsOf Tryd.f12 22)) .skip)) (.seq (.ops 23 (opsOf Tryd.f12 23)) (.seq (.ops 24 (opsOf Tryd.f12 24)) (.ret [])))))) (.ops 2 (opsOf Tryd.f12 2))))))))))))))))))))) R))
noncomputable def syntax_write.u2.f (k : Nat) (rr26 : Ad → Sl → Int → Int → Bool → (M α) → M α) (x0 : Ad) (x1 : Sl) (x2 : Ad) (kn : M α) : M α :=
  ldI .i64 (x2.add 0) fun x5 =>
  ldI .i64 (x2.add 1) fun x6 =>
  ldI .i64 (x2.add 2) fun x7 =>
  ldStr (x2.add 3) fun x8 =>
  ldI .i64 (x2.add 4) fun x9 =>
  syntax_below.f k x5 x6 x7 x8 x9 fun r10 r11 =>
  cond (decide (r10 = 1)) (
    ldI .i64 ((x2.add 1).add 0) fun x12 =>
    ldI .i64 ((x2.add 0).add 0) fun x13 =>
    rr26 x0 x1 x12 x13 true (
      kn)) (
    kn)
noncomputable def syntax_write.u2.c : IC := (.seq (.ops 25 (opsOf Tryd.f12 25)) (.seq (.ops 26 (opsOf Tryd.f12 26)) (.cut [] (.cond (.tmp 93) (.ops 27 (opsOf Tryd.f12 27)) .skip))))
noncomputable abbrev syntax_write.u3.f (k : Nat) (rr26 : Ad → Sl → Int → Int → Bool → (M α) → M α) (x0 : Ad) (x1 : Sl) (x2 : Int) (kn : M α) (kr : M α) : M α :=
  syntax_write.u1.f k rr26 x0 x1 x2 (fun y0 y1 y2 => syntax_write.u2.f k rr26 y0 y1 y2 kn) kr
noncomputable def syntax_write.u3.c : IC := syntax_write.u1.c syntax_write.u2.c
noncomputable def syntax_operand.u1.f (k : Nat) (rr12 : Ad → Sl → Int → (M α) → M α) (x0 : Ad) (x1 : Sl) (x2 : Int) (x3 : Int) (x4 : Bool) (kn : M α) : M α :=
  idxSl x1 x2 5 fun a7 =>
  ldI .i64 ((a7.add 0).add 0) fun x8 =>
  syntax_fix.f k x3 fun r9 =>
  cond (r9) (
    rr12 x0 x1 x2 (
      kn)) (
    syntax_fix.f k x8 fun r10 =>
    cond (r10) (
      strings_Builder_WriteString.f k x0 [40] fun r11 r12 =>
      rr12 x0 x1 x2 (
        strings_Builder_WriteString.f k x0 [41] fun r13 r14 =>
        kn)) (
      cond (decide (x8 = 7)) (
        cond (!(decide (x3 = 7))) (
          strings_Builder_WriteString.f k x0 [40] fun r15 r16 =>
          rr12 x0 x1 x2 (
            strings_Builder_WriteString.f k x0 [41] fun r17 r18 =>
            kn)) (
          cond (!x4) (
            strings_Builder_WriteString.f k x0 [40] fun r19 r20 =>
            rr12 x0 x1 x2 (
              cond (!x4) (
                strings_Builder_WriteString.f k x0 [41] fun r21 r22 =>
                kn) (
                kn))) (
            rr12 x0 x1 x2 (
              cond (!x4) (
                strings_Builder_WriteString.f k x0 [41] fun r23 r24 =>
                kn) (
                kn))))) (
        cond (decide (x8 = 6)) (
          cond (!(decide (x3 = 7))) (
            cond (!(decide (x3 = 6))) (
              strings_Builder_WriteString.f k x0 [40] fun r25 r26 =>
              rr12 x0 x1 x2 (
                strings_Builder_WriteString.f k x0 [41] fun r27 r28 =>
                kn)) (
              cond (!x4) (
                strings_Builder_WriteString.f k x0 [40] fun r29 r30 =>
                rr12 x0 x1 x2 (
                  cond (!x4) (
                    strings_Builder_WriteString.f k x0 [41] fun r31 r32 =>
                    kn) (
                    kn))) (
                rr12 x0 x1 x2 (
                  cond (!x4) (
                    strings_Builder_WriteString.f k x0 [41] fun r33 r34 =>
                    kn) (
                    kn))))) (
            rr12 x0 x1 x2 (
              kn))) (
          rr12 x0 x1 x2 (
            kn)))))
noncomputable def syntax_operand.u1.c : IC := (.seq (.ops 0 (opsOf Tryd.f26 0)) (.seq (.block 0 (.seq (.ops 1 (opsOf Tryd.f26 1)) (.cond (.tmp 17) .skip (.seq (.ops 2 (opsOf Tryd.f26 2)) (.cond (.tmp 20) (.ops 3 (opsOf Tryd.f26 3)) (.seq (.ops 4 (opsOf Tryd.f26 4)) (.cond (.tmp 23) (.ops 5 (opsOf Tryd.f26 5)) (.seq (.ops 6 (opsOf Tryd.f26 6)) (.cond (.tmp 32) (.ops 7 (opsOf Tryd.f26 7)) .skip))))))))) (.seq (.seq (.ops 8 (opsOf Tryd.f26 8)) (.cond (.tmp 45) (.ops 9 (opsOf Tryd.f26 9)) .skip)) (.seq (.ops 10 (opsOf Tryd.f26 10)) (.seq (.ops 11 (opsOf Tryd.f26 11)) (.cut [] (.cond (.tmp 52) (.ops 12 (opsOf Tryd.f26 12)) .skip)))))))
mutual
noncomputable def syntax_write.f : Nat → Ad → Sl → Int → (M α) → M α
  | 0, _, _, _, _ => fail
  | k + 1, x0, x1, x2, ret =>
    syntax_write.u3.f k (fun z0 z1 z2 z3 z4 z5 => syntax_operand.f k z0 z1 z2 z3 z4 z5) x0 x1 x2 (ret) (ret)
noncomputable def syntax_operand.f : Nat → Ad → Sl → Int → Int → Bool → (M α) → M α
  | 0, _, _, _, _, _, _ => fail
  | k + 1, x0, x1, x2, x3, x4, ret =>
    syntax_operand.u1.f k (fun z0 z1 z2 z3 => syntax_write.f k z0 z1 z2 z3) x0 x1 x2 x3 x4 (ret)
end
noncomputable def syntax_Print.u1.f (k : Nat) (x0 : Sl) (kr : List UInt8 → M α) : M α :=
  syntax_Right.f k x0 fun r3 =>
  cond (!r3) (
    kr []) (
    newT 42 [.ptr none, .slice Sl.nil] fun b4 =>
    syntax_write.f k b4 x0 (w64 ((x0.len : Int) - 1)) (
      builder_String.f k b4 fun r5 =>
      kr r5))
noncomputable def syntax_Print.u1.c : IC := (.seq (.ops 0 (opsOf Tryd.f7 0)) (.seq (.seq (.ops 1 (opsOf Tryd.f7 1)) (.cond (.tmp 6) (.seq (.ops 2 (opsOf Tryd.f7 2)) (.ret [2])) .skip)) (.seq (.ops 3 (opsOf Tryd.f7 3)) (.seq (.ops 4 (opsOf Tryd.f7 4)) (.seq (.ops 5 (opsOf Tryd.f7 5)) (.ret [2]))))))
noncomputable def syntax_Print.f : Nat → Sl → (List UInt8 → M α) → M α
  | 0, _, _ => fail
  | k + 1, x0, ret =>
    syntax_Print.u1.f k x0 (fun y0 =>
      ret y0)
noncomputable def w4shown.u1.f (k : Nat) (kr : Bool → M α) : M α :=
  syntax_Parse.f k [112, 32, 38, 32, 113, 32, 124, 32, 126, 114] fun r2 r3 =>
  asNil r3 fun b4 =>
  cond (!b4) (
    kr false) (
    cond (!(decide ((r2.len : Int) = 6))) (
      kr false) (
      idxSl r2 5 5 fun a5 =>
      ldI .i64 (a5.add 0) fun x6 =>
      ldI .i64 (a5.add 1) fun x7 =>
      ldI .i64 (a5.add 2) fun x8 =>
      ldStr (a5.add 3) fun x9 =>
      ldI .i64 (a5.add 4) fun x10 =>
      cond ((decide (x6 = 7) && (decide (x7 = 2) && (decide (x8 = 4) && (decide (x9 = []) && (decide (x10 = 6) && true)))))) (
        syntax_Print.f k r2 fun r11 =>
        kr (decide (r11 = [112, 32, 38, 32, 113, 32, 124, 32, 126, 114]))) (
        kr false)))
noncomputable def w4shown.u1.c : IC := (.seq (.ops 0 (opsOf Tryd.f6 0)) (.seq (.ops 1 (opsOf Tryd.f6 1)) (.seq (.seq (.ops 2 (opsOf Tryd.f6 2)) (.cond (.tmp 13) (.seq (.ops 3 (opsOf Tryd.f6 3)) (.ret [0])) .skip)) (.seq (.ops 4 (opsOf Tryd.f6 4)) (.ret [0])))))
noncomputable def w4shown.f : Nat → (Bool → M α) → M α
  | 0, _ => fail
  | k + 1, ret =>
    w4shown.u1.f k (fun y0 =>
      ret y0)
noncomputable def w4fault.u1.f (k : Nat) (x0 : V) (kr : Ad → M α) : M α :=
  new [.int .i64 0, .int .i64 0] fun x3 =>
  new [.ptr none] fun f4 =>
  errors_As.f k x0 (.iface 66 (.ptr (some f4))) fun r5 =>
  cond (!r5) (
    st1 (x3.add 0) (.int .i64 (-1)) <|
    st1 (x3.add 1) (.int .i64 0) <|
    kr x3) (
    ldP (f4.add 0) fun x6 =>
    cond (x6.isNone) (
      st1 (x3.add 0) (.int .i64 (-1)) <|
      st1 (x3.add 1) (.int .i64 0) <|
      kr x3) (
      ldP (f4.add 0) fun x7 =>
      asSome x7 fun p8 =>
      ldI .i64 (p8.add 0) fun x9 =>
      ldI .i64 (p8.add 1) fun x10 =>
      st1 (x3.add 0) (.int .i64 x9) <|
      st1 (x3.add 1) (.int .i64 x10) <|
      kr x3))
noncomputable def w4fault.u1.c : IC := (.seq (.ops 0 (opsOf Tryd.f11 0)) (.seq (.ops 1 (opsOf Tryd.f11 1)) (.seq (.ops 2 (opsOf Tryd.f11 2)) (.seq (.seq (.ops 3 (opsOf Tryd.f11 3)) (.cond (.tmp 13) (.seq (.ops 4 (opsOf Tryd.f11 4)) (.ret [2])) .skip)) (.seq (.ops 5 (opsOf Tryd.f11 5)) (.ret [2]))))))
noncomputable def w4fault.f : Nat → V → (Int → Int → M α) → M α
  | 0, _, _ => fail
  | k + 1, x0, ret =>
    w4fault.u1.f k x0 (fun y0 =>
      ldI .i64 (y0.add 0) fun o501 =>
      ldI .i64 (y0.add 1) fun o502 =>
      ret o501 o502)
noncomputable def w4SyntaxBrackets.u1.f (k : Nat) (x0 : List UInt8) (kn : List UInt8 → Sl → Sl → M α) (kr : Bool → M α) : M α :=
  w4shown.f k fun r3 =>
  cutStr x0 none (some (if 20000 < (x0.length : Int) then 20000 else (x0.length : Int))) fun x4 =>
  syntax_Parse.f k x4 fun r5 r6 =>
  cat [40] x4 fun x7 =>
  cat x7 [10, 41] fun x8 =>
  syntax_Parse.f k x8 fun r9 r10 =>
  cond (!r3) (
    kr r3) (
    asNil r6 fun b11 =>
    cond (!b11) (
      kr r3) (
      cond (decide (262134 < (x4.length : Int))) (
        kr true) (
        asNil r10 fun b12 =>
        cond (!b12) (
          kr false) (
          cond (!(decide ((r9.len : Int) = (r5.len : Int)))) (
            kr false) (
            kn x4 r5 r9)))))
noncomputable def w4SyntaxBrackets.u1.c (R : IC) : IC := (.seq (.ops 0 (opsOf Tryd.f4 0)) (.seq (.ops 1 (opsOf Tryd.f4 1)) (.seq (.ops 2 (opsOf Tryd.f4 2)) (.seq (.ops 3 (opsOf Tryd.f4 3)) (.seq (.ops 4 (opsOf Tryd.f4 4)) (.seq (.seq (.ops 5 (opsOf Tryd.f4 5)) (.cond (.tmp 35) (.seq (.ops 6 (opsOf Tryd.f4 6)) (.ret [2])) .skip)) (.seq (.seq (.ops 7 (opsOf Tryd.f4 7)) (.cond (.tmp 39) (.seq (.ops 8 (opsOf Tryd.f4 8)) (.ret [2])) .skip)) (.seq (.cut [0, 4, 6] (.seq (.ops 9 (opsOf Tryd.f4 9)) (.cond (.tmp 48) (.seq (.ops 10 (opsOf Tryd.f4 10)) (.ret [2])) .skip))) R))))))))
noncomputable def w4SyntaxBrackets.u2.f (k : Nat) (x0 : List UInt8) (x1 : Sl) (x2 : Sl) (kn : List UInt8 → Sl → Sl → Int → M α) : M α :=
  kn x0 x1 x2 0
noncomputable def w4SyntaxBrackets.u2.c (R : IC) : IC := (.seq (.cut [0, 4, 6, 8] (.ops 11 (opsOf Tryd.f4 11))) R)
noncomputable def w4SyntaxBrackets.u3.f (k : Nat) (x0 : List UInt8) (x1 : Sl) (x2 : Sl) (x3 : Int) (kn : List UInt8 → Sl → Sl → Int → M α) (kr : Bool → M α) (kx0 : List UInt8 → Sl → M α) : M α :=
  cond (decide (x3 < (x1.len : Int))) (
    idxSl x1 x3 5 fun a6 =>
    ldI .i64 (a6.add 0) fun x7 =>
    ldI .i64 (a6.add 1) fun x8 =>
    ldI .i64 (a6.add 2) fun x9 =>
    ldStr (a6.add 3) fun x10 =>
    ldI .i64 (a6.add 4) fun x11 =>
    new [.int .i64 0, .int .i64 0, .int .i64 0, .str [], .int .i64 0] fun x12 =>
    st1 (x12.add 0) (.int .i64 x7) <|
    st1 (x12.add 1) (.int .i64 x8) <|
    st1 (x12.add 2) (.int .i64 x9) <|
    st1 (x12.add 3) (.str x10) <|
    st1 (x12.add 4) (.int .i64 x11) <|
    ldI .i64 ((x12.add 4).add 0) fun x13 =>
    st1 ((x12.add 4).add 0) (.int .i64 (w64 (x13 + 1))) <|
    idxSl x2 x3 5 fun a14 =>
    ldI .i64 (a14.add 0) fun x15 =>
    ldI .i64 (a14.add 1) fun x16 =>
    ldI .i64 (a14.add 2) fun x17 =>
    ldStr (a14.add 3) fun x18 =>
    ldI .i64 (a14.add 4) fun x19 =>
    ldI .i64 (x12.add 0) fun x20 =>
    ldI .i64 (x12.add 1) fun x21 =>
    ldI .i64 (x12.add 2) fun x22 =>
    ldStr (x12.add 3) fun x23 =>
    ldI .i64 (x12.add 4) fun x24 =>
    cond (!((decide (x15 = x20) && (decide (x16 = x21) && (decide (x17 = x22) && (decide (x18 = x23) && (decide (x19 = x24) && true))))))) (
      kr false) (
      kn x0 x1 x2 (w64 (x3 + 1)))) (
    kx0 x0 x1)
noncomputable def w4SyntaxBrackets.u3.c : IC := (.seq (.seq (.ops 12 (opsOf Tryd.f4 12)) (.cond (.tmp 52) .skip (.exit 0 [0, 4]))) (.seq (.block 1 (.seq (.ops 14 (opsOf Tryd.f4 14)) (.seq (.ops 15 (opsOf Tryd.f4 15)) (.seq (.drawn 16 (opsOf Tryd.f4 16) true [.op 0, .op 1, .op 2, .op 3, .op 4, .op 5]) (.cond (.tmp 68) (.seq (.ops 17 (opsOf Tryd.f4 17)) (.ret [2])) .skip))))) (.cut [0, 4, 6, 8] (.ops 13 (opsOf Tryd.f4 13)))))
noncomputable def w4SyntaxBrackets.u4.l (k : Nat) (kr : Bool → M α) (kx0 : List UInt8 → Sl → M α) : Nat → List UInt8 → Sl → Sl → Int → M α
  | 0, _, _, _, _ => fail
  | j + 1, x0, x1, x2, x3 =>
    w4SyntaxBrackets.u3.f k x0 x1 x2 x3 (fun y0 y1 y2 y3 => w4SyntaxBrackets.u4.l k kr kx0 j y0 y1 y2 y3) kr kx0
noncomputable abbrev w4SyntaxBrackets.u4.f (k : Nat) (x0 : List UInt8) (x1 : Sl) (x2 : Sl) (x3 : Int) (kr : Bool → M α) (kx0 : List UInt8 → Sl → M α) : M α :=
  w4SyntaxBrackets.u4.l k kr kx0 k x0 x1 x2 x3
noncomputable def w4SyntaxBrackets.u4.c : IC := .loop [0, 4, 6, 8] w4SyntaxBrackets.u3.c
noncomputable abbrev w4SyntaxBrackets.u5.f (k : Nat) (x0 : List UInt8) (x1 : Sl) (x2 : Sl) (x3 : Int) (kn : List UInt8 → Sl → M α) (kr : Bool → M α) : M α :=
  w4SyntaxBrackets.u4.f k x0 x1 x2 x3 kr (fun y0 y1 => kn y0 y1)
noncomputable def w4SyntaxBrackets.u5.c : IC := .block 0 w4SyntaxBrackets.u4.c
noncomputable abbrev w4SyntaxBrackets.u6.f (k : Nat) (x0 : List UInt8) (x1 : Sl) (x2 : Sl) (kn : List UInt8 → Sl → M α) (kr : Bool → M α) : M α :=
  w4SyntaxBrackets.u2.f k x0 x1 x2 (fun y0 y1 y2 y3 => w4SyntaxBrackets.u5.f k y0 y1 y2 y3 kn kr)
noncomputable def w4SyntaxBrackets.u6.c : IC := w4SyntaxBrackets.u2.c w4SyntaxBrackets.u5.c
noncomputable def w4SyntaxBrackets.u7.f (k : Nat) (x0 : List UInt8) (x1 : Sl) (kr : Bool → M α) : M α :=
  cat [126, 40] x0 fun x4 =>
  cat x4 [10, 41] fun x5 =>
  syntax_Parse.f k x5 fun r6 r7 =>
  cond (decide ((x1.len : Int) = 60)) (
    w4fault.f k r7 fun r8 r9 =>
    cond (decide (r9 = 10)) (
      kr (decide ((r6.len : Int) = 0))) (
      kr false)) (
    asNil r7 fun b10 =>
    cond (b10) (
      cond (decide ((r6.len : Int) = w64 ((x1.len : Int) + 1))) (
        idxSl r6 (x1.len : Int) 5 fun a11 =>
        ldI .i64 (a11.add 0) fun x12 =>
        ldI .i64 (a11.add 1) fun x13 =>
        ldI .i64 (a11.add 2) fun x14 =>
        ldStr (a11.add 3) fun x15 =>
        ldI .i64 (a11.add 4) fun x16 =>
        kr ((decide (x12 = 5) && (decide (x13 = w64 ((x1.len : Int) - 1)) && (decide (x14 = 0) && (decide (x15 = []) && (decide (x16 = 0) && true))))))) (
        kr false)) (
      kr false))
noncomputable def w4SyntaxBrackets.u7.c : IC := (.seq (.ops 18 (opsOf Tryd.f4 18)) (.seq (.seq (.ops 19 (opsOf Tryd.f4 19)) (.cond (.tmp 78) (.seq (.ops 20 (opsOf Tryd.f4 20)) (.ret [2])) .skip)) (.seq (.ops 21 (opsOf Tryd.f4 21)) (.seq (.ops 22 (opsOf Tryd.f4 22)) (.ret [2])))))
noncomputable abbrev w4SyntaxBrackets.u8.f (k : Nat) (x0 : List UInt8) (x1 : Sl) (x2 : Sl) (kr : Bool → M α) : M α :=
  w4SyntaxBrackets.u6.f k x0 x1 x2 (fun y0 y1 => w4SyntaxBrackets.u7.f k y0 y1 kr) kr
noncomputable def w4SyntaxBrackets.u8.c : IC := (.seq w4SyntaxBrackets.u6.c w4SyntaxBrackets.u7.c)
noncomputable abbrev w4SyntaxBrackets.u9.f (k : Nat) (x0 : List UInt8) (kr : Bool → M α) : M α :=
  w4SyntaxBrackets.u1.f k x0 (fun y0 y1 y2 => w4SyntaxBrackets.u8.f k y0 y1 y2 kr) kr
noncomputable def w4SyntaxBrackets.u9.c : IC := w4SyntaxBrackets.u1.c w4SyntaxBrackets.u8.c
noncomputable def w4SyntaxBrackets.f : Nat → List UInt8 → (Bool → M α) → M α
  | 0, _, _ => fail
  | k + 1, x0, ret =>
    w4SyntaxBrackets.u9.f k x0 (fun y0 =>
      ret y0)
noncomputable def r4Same.u1.f (k : Nat) (x0 : Sl) (x1 : Sl) (x2 : Bool) (kn : Sl → Sl → Bool → M α) (kr : Bool → M α) : M α :=
  cond (!(decide ((x0.len : Int) = (x1.len : Int)))) (
    kr false) (
    kn x0 x1 x2)
noncomputable def r4Same.u1.c (R : IC) : IC := (.seq (.ops 0 (opsOf Tryd.f10 0)) (.seq (.cut [0, 1, 2] (.seq (.ops 1 (opsOf Tryd.f10 1)) (.cond (.tmp 14) (.seq (.ops 2 (opsOf Tryd.f10 2)) (.ret [6])) .skip))) R))
noncomputable def r4Same.u2.f (k : Nat) (x0 : Sl) (x1 : Sl) (x2 : Bool) (kn : Sl → Sl → Bool → Int → M α) : M α :=
  kn x0 x1 x2 0
noncomputable def r4Same.u2.c (R : IC) : IC := (.seq (.cut [0, 1, 2, 7] (.ops 3 (opsOf Tryd.f10 3))) R)
noncomputable def r4Same.u3.f (k : Nat) (x0 : Sl) (x1 : Sl) (x2 : Bool) (x3 : Int) (kn : Sl → Sl → Bool → Int → M α) (kr : Bool → M α) (kx0 : M α) : M α :=
  cond (decide (x3 < (x0.len : Int))) (
    idxSl x0 x3 5 fun a6 =>
    ldI .i64 (a6.add 0) fun x7 =>
    ldI .i64 (a6.add 1) fun x8 =>
    ldI .i64 (a6.add 2) fun x9 =>
    ldStr (a6.add 3) fun x10 =>
    ldI .i64 (a6.add 4) fun x11 =>
    new [.int .i64 0, .int .i64 0, .int .i64 0, .str [], .int .i64 0] fun a12 =>
    st1 (a12.add 0) (.int .i64 x7) <|
    st1 (a12.add 1) (.int .i64 x8) <|
    st1 (a12.add 2) (.int .i64 x9) <|
    st1 (a12.add 3) (.str x10) <|
    st1 (a12.add 4) (.int .i64 x11) <|
    idxSl x1 x3 5 fun a13 =>
    ldI .i64 (a13.add 0) fun x14 =>
    ldI .i64 (a13.add 1) fun x15 =>
    ldI .i64 (a13.add 2) fun x16 =>
    ldStr (a13.add 3) fun x17 =>
    ldI .i64 (a13.add 4) fun x18 =>
    new [.int .i64 0, .int .i64 0, .int .i64 0, .str [], .int .i64 0] fun b19 =>
    st1 (b19.add 0) (.int .i64 x14) <|
    st1 (b19.add 1) (.int .i64 x15) <|
    st1 (b19.add 2) (.int .i64 x16) <|
    st1 (b19.add 3) (.str x17) <|
    st1 (b19.add 4) (.int .i64 x18) <|
    cond (!x2) (
      st1 ((a12.add 4).add 0) (.int .i64 0) <|
      st1 ((b19.add 4).add 0) (.int .i64 0) <|
      ldI .i64 (a12.add 0) fun x20 =>
      ldI .i64 (a12.add 1) fun x21 =>
      ldI .i64 (a12.add 2) fun x22 =>
      ldStr (a12.add 3) fun x23 =>
      ldI .i64 (a12.add 4) fun x24 =>
      ldI .i64 (b19.add 0) fun x25 =>
      ldI .i64 (b19.add 1) fun x26 =>
      ldI .i64 (b19.add 2) fun x27 =>
      ldStr (b19.add 3) fun x28 =>
      ldI .i64 (b19.add 4) fun x29 =>
      cond (!((decide (x20 = x25) && (decide (x21 = x26) && (decide (x22 = x27) && (decide (x23 = x28) && (decide (x24 = x29) && true))))))) (
        kr false) (
        kn x0 x1 x2 (w64 (x3 + 1)))) (
      ldI .i64 (a12.add 0) fun x30 =>
      ldI .i64 (a12.add 1) fun x31 =>
      ldI .i64 (a12.add 2) fun x32 =>
      ldStr (a12.add 3) fun x33 =>
      ldI .i64 (a12.add 4) fun x34 =>
      ldI .i64 (b19.add 0) fun x35 =>
      ldI .i64 (b19.add 1) fun x36 =>
      ldI .i64 (b19.add 2) fun x37 =>
      ldStr (b19.add 3) fun x38 =>
      ldI .i64 (b19.add 4) fun x39 =>
      cond (!((decide (x30 = x35) && (decide (x31 = x36) && (decide (x32 = x37) && (decide (x33 = x38) && (decide (x34 = x39) && true))))))) (
        kr false) (
        kn x0 x1 x2 (w64 (x3 + 1))))) (
    kx0)
noncomputable def r4Same.u3.c : IC := (.seq (.seq (.ops 4 (opsOf Tryd.f10 4)) (.cond (.tmp 18) .skip (.exit 0 []))) (.seq (.block 1 (.seq (.ops 6 (opsOf Tryd.f10 6)) (.seq (.ops 7 (opsOf Tryd.f10 7)) (.seq (.seq (.ops 8 (opsOf Tryd.f10 8)) (.cond (.tmp 30) (.seq (.ops 9 (opsOf Tryd.f10 9)) (.ops 10 (opsOf Tryd.f10 10))) .skip)) (.seq (.ops 11 (opsOf Tryd.f10 11)) (.cond (.tmp 35) (.seq (.ops 12 (opsOf Tryd.f10 12)) (.ret [6])) .skip)))))) (.cut [0, 1, 2, 7] (.ops 5 (opsOf Tryd.f10 5)))))
noncomputable def r4Same.u4.l (k : Nat) (kr : Bool → M α) (kx0 : M α) : Nat → Sl → Sl → Bool → Int → M α
  | 0, _, _, _, _ => fail
  | j + 1, x0, x1, x2, x3 =>
    r4Same.u3.f k x0 x1 x2 x3 (fun y0 y1 y2 y3 => r4Same.u4.l k kr kx0 j y0 y1 y2 y3) kr kx0
noncomputable abbrev r4Same.u4.f (k : Nat) (x0 : Sl) (x1 : Sl) (x2 : Bool) (x3 : Int) (kr : Bool → M α) (kx0 : M α) : M α :=
  r4Same.u4.l k kr kx0 k x0 x1 x2 x3
noncomputable def r4Same.u4.c : IC := .loop [0, 1, 2, 7] r4Same.u3.c
noncomputable abbrev r4Same.u5.f (k : Nat) (x0 : Sl) (x1 : Sl) (x2 : Bool) (x3 : Int) (kn : M α) (kr : Bool → M α) : M α :=
  r4Same.u4.f k x0 x1 x2 x3 kr (kn)
noncomputable def r4Same.u5.c : IC := .block 0 r4Same.u4.c
noncomputable abbrev r4Same.u6.f (k : Nat) (x0 : Sl) (x1 : Sl) (x2 : Bool) (kn : M α) (kr : Bool → M α) : M α :=
  r4Same.u2.f k x0 x1 x2 (fun y0 y1 y2 y3 => r4Same.u5.f k y0 y1 y2 y3 kn kr)
noncomputable def r4Same.u6.c : IC := r4Same.u2.c r4Same.u5.c
noncomputable def r4Same.u7.f (k : Nat) (kr : Bool → M α) : M α :=
  kr true
noncomputable def r4Same.u7.c : IC := (.seq (.ops 13 (opsOf Tryd.f10 13)) (.ret [6]))
noncomputable abbrev r4Same.u8.f (k : Nat) (x0 : Sl) (x1 : Sl) (x2 : Bool) (kr : Bool → M α) : M α :=
  r4Same.u6.f k x0 x1 x2 (r4Same.u7.f k kr) kr
noncomputable def r4Same.u8.c : IC := (.seq r4Same.u6.c r4Same.u7.c)
noncomputable abbrev r4Same.u9.f (k : Nat) (x0 : Sl) (x1 : Sl) (x2 : Bool) (kr : Bool → M α) : M α :=
  r4Same.u1.f k x0 x1 x2 (fun y0 y1 y2 => r4Same.u8.f k y0 y1 y2 kr) kr
noncomputable def r4Same.u9.c : IC := r4Same.u1.c r4Same.u8.c
noncomputable def r4Same.f : Nat → Sl → Sl → Bool → (Bool → M α) → M α
  | 0, _, _, _, _ => fail
  | k + 1, x0, x1, x2, ret =>
    r4Same.u9.f k x0 x1 x2 (fun y0 =>
      ret y0)
noncomputable def ti : Nat → Option TI
  | 3 => some ⟨Tryd.t3.desc, 1, 8, [.int .i64 0], [.int .i64], false, false⟩
  | 5 => some ⟨Tryd.t5.desc, 1, 1, [.int .u8 0], [.int .u8], false, false⟩
  | 9 => some ⟨Tryd.t9.desc, 1, 16, [.str []], [.str], false, false⟩
  | 20 => some ⟨Tryd.t20.desc, 1, 16, [.nilIface], [.any], false, false⟩
  | 22 => some ⟨Tryd.t22.desc, 1, 24, [.slice Sl.nil], [.slice], false, false⟩
  | 27 => some ⟨Tryd.t26.desc, 1, 16, [.nilIface], [.any], false, false⟩
  | 31 => some ⟨Tryd.t3.desc, 1, 8, [.int .i64 0], [.int .i64], false, false⟩
  | 33 => some ⟨Tryd.t32.desc, 2, 16, [.int .i64 0, .int .i64 0], [.int .i64, .int .i64], true, true⟩
  | 37 => some ⟨Tryd.t36.desc, 5, 48, [.int .i64 0, .int .i64 0, .int .i64 0, .str [], .int .i64 0], [.int .i64, .int .i64, .int .i64, .str, .int .i64], true, true⟩
  | 39 => some ⟨Tryd.t39.desc, 1, 8, [.ptr none], [.ptr], false, false⟩
  | 40 => some ⟨Tryd.t40.desc, 1, 24, [.slice Sl.nil], [.slice], false, false⟩
  | 42 => some ⟨Tryd.t41.desc, 2, 32, [.ptr none, .slice Sl.nil], [.ptr, .slice], true, false⟩
  | 45 => some ⟨Tryd.t45.desc, 1, 24, [.slice Sl.nil], [.slice], false, false⟩
  | 51 => some ⟨Tryd.t51.desc, 1, 24, [.slice Sl.nil], [.slice], false, false⟩
  | 55 => some ⟨Tryd.t54.desc, 2, 16, [.int .i64 0, .int .i64 0], [.int .i64, .int .i64], true, false⟩
  | 56 => some ⟨Tryd.t56.desc, 1, 8, [.ptr none], [.ptr], false, false⟩
  | 60 => some ⟨Tryd.t59.desc, 4, 40, [.int .i64 0, .int .i64 0, .str [], .int .i64 0], [.int .i64, .int .i64, .str, .int .i64], true, true⟩
  | 63 => some ⟨Tryd.t62.desc, 3, 56, [.slice Sl.nil, .int .i64 0, .slice Sl.nil], [.slice, .int .i64, .slice], true, false⟩
  | 66 => some ⟨Tryd.t66.desc, 1, 8, [.ptr none], [.ptr], false, false⟩
  | _ => none
noncomputable def T : Tab := ⟨ti, fun _ => none, fun t => Nat.beq t 5 || Nat.beq t 42⟩
noncomputable def env_55 (k : Nat) (args : List V) (κ : Res → M α) : M α := match args with
  | [a0, a1] =>
      asStr a0 fun x1 =>
      asI .u8 a1 fun x2 =>
      bytealg_IndexByteString.f k x1 x2 (fun o0 => κ (.ret (.int .i64 o0)))
  | _ => fail
noncomputable def env_39 (k : Nat) (args : List V) (κ : Res → M α) : M α := match args with
  | [a0] =>
      asP a0 fun x1 =>
      asSome x1 fun p2 =>
      builder_copyCheck.f k p2 (κ (.ret (.tuple [])))
  | _ => fail
noncomputable def env_13 (k : Nat) (args : List V) (κ : Res → M α) : M α := match args with
  | [a0] =>
      asP a0 fun x1 =>
      asSome x1 fun p2 =>
      builder_String.f k p2 (fun o0 => κ (.ret (.str o0)))
  | _ => fail
noncomputable def env_43 (k : Nat) (args : List V) (κ : Res → M α) : M α := match args with
  | [a0, a1] =>
      asStr a0 fun x1 =>
      asI .u8 a1 fun x2 =>
      stringslite_IndexByte.f k x1 x2 (fun o0 => κ (.ret (.int .i64 o0)))
  | _ => fail
noncomputable def env_30 (k : Nat) (args : List V) (κ : Res → M α) : M α := match args with
  | [a0, a1] =>
      asStr a0 fun x1 =>
      asI .u8 a1 fun x2 =>
      strings_IndexByte.f k x1 x2 (fun o0 => κ (.ret (.int .i64 o0)))
  | _ => fail
noncomputable def env_44 (k : Nat) (args : List V) (κ : Res → M α) : M α := match args with
  | [a0] =>
      asI .u8 a0 fun x1 =>
      scan_kind.f k x1 (fun o0 => κ (.ret (.int .i64 o0)))
  | _ => fail
noncomputable def env_45 (k : Nat) (args : List V) (κ : Res → M α) : M α := match args with
  | [a0, a1] =>
      asI .i64 a0 fun x1 =>
      asStr a1 fun x2 =>
      scan_long.f k x1 x2 (fun o0 => κ (.ret (.int .i64 o0)))
  | _ => fail
noncomputable def env_46 (k : Nat) (args : List V) (κ : Res → M α) : M α := match args with
  | [a0] =>
      asStr a0 fun x1 =>
      scan_value.f k x1 (fun o0 o1 => κ (.ret (.tuple [.int .i64 o0, .bool o1])))
  | _ => fail
noncomputable def env_31 (k : Nat) (args : List V) (κ : Res → M α) : M α := match args with
  | [a0, a1] =>
      asStr a0 fun x1 =>
      asI .i64 a1 fun x2 =>
      scan_token.f k x1 x2 (fun o0 o1 o2 o3 o4 => κ (.ret (.tuple [.agg [.int .i64 o0, .int .i64 o1, .str o2, .int .i64 o3], .int .i64 o4])))
  | _ => fail
noncomputable def env_18 (k : Nat) (args : List V) (κ : Res → M α) : M α := match args with
  | [a0] =>
      asStr a0 fun x1 =>
      scan_All.f k x1 (fun o0 o1 => κ (.ret (.tuple [.slice o0, o1])))
  | _ => fail
noncomputable def env_21 (k : Nat) (args : List V) (κ : Res → M α) : M α := match args with
  | [a0] =>
      asAgg a0 fun l1 =>
      uncons l1 fun v2 l3 =>
      asI .i64 v2 fun x4 =>
      uncons l3 fun v5 l6 =>
      asI .i64 v5 fun x7 =>
      uncons l6 fun v8 l9 =>
      asStr v8 fun x10 =>
      uncons l9 fun v11 l12 =>
      asI .i64 v11 fun x13 =>
      unnil l12 <|
      syntax_Parse_c2.f k x4 x7 x10 x13 (fun o0 => κ (.ret (.bool o0)))
  | _ => fail
noncomputable def env_32 (k : Nat) (args : List V) (κ : Res → M α) : M α := match args with
  | [a0, a1] =>
      asS a0 fun x1 =>
      asFunc a1 fun f2 l3 l4 =>
      need (Nat.beq f2 21) <|
      unnil l3 <|
      unnil l4 <|
      slices_IndexFunc_Token_Token_21.f k x1 (fun o0 => κ (.ret (.int .i64 o0)))
  | _ => fail
noncomputable def env_20 (k : Nat) (args : List V) (κ : Res → M α) : M α := match args with
  | [a0, a1] =>
      asS a0 fun x1 =>
      asFunc a1 fun f2 l3 l4 =>
      need (Nat.beq f2 21) <|
      unnil l3 <|
      unnil l4 <|
      slices_DeleteFunc_Token_Token_21.f k x1 (fun o0 => κ (.ret (.slice o0)))
  | _ => fail
noncomputable def env_47 (k : Nat) (args : List V) (κ : Res → M α) : M α := match args with
  | [a0, a1] =>
      asP a0 fun x1 =>
      asSome x1 fun p2 =>
      asStr a1 fun x3 =>
      spis.f k p2 x3 (fun o0 => κ (.ret (.bool o0)))
  | _ => fail
noncomputable def env_56 (k : Nat) (args : List V) (κ : Res → M α) : M α := match args with
  | [a0] =>
      asP a0 fun x1 =>
      asSome x1 fun p2 =>
      spnext.f k p2 (fun o0 o1 o2 o3 => κ (.ret (.agg [.int .i64 o0, .int .i64 o1, .str o2, .int .i64 o3])))
  | _ => fail
noncomputable def env_48 (k : Nat) (args : List V) (κ : Res → M α) : M α := match args with
  | [a0] =>
      asP a0 fun x1 =>
      asSome x1 fun p2 =>
      spmakes.f k p2 (fun v => κ (.pan v)) (fun o0 o1 o2 o3 => κ (.ret (.agg [.int .i64 o0, .int .i64 o1, .str o2, .int .i64 o3])))
  | _ => fail
noncomputable def env_49 (k : Nat) (args : List V) (κ : Res → M α) : M α := match args with
  | [a0, a1] =>
      asP a0 fun x1 =>
      asSome x1 fun p2 =>
      asAgg a1 fun l3 =>
      uncons l3 fun v4 l5 =>
      asI .i64 v4 fun x6 =>
      uncons l5 fun v7 l8 =>
      asI .i64 v7 fun x9 =>
      uncons l8 fun v10 l11 =>
      asI .i64 v10 fun x12 =>
      uncons l11 fun v13 l14 =>
      asStr v13 fun x15 =>
      uncons l14 fun v16 l17 =>
      asI .i64 v16 fun x18 =>
      unnil l17 <|
      spnode.f k p2 x6 x9 x12 x15 x18 (fun o0 => κ (.ret (.int .i64 o0)))
  | _ => fail
noncomputable def env_23 (k : Nat) (args : List V) (κ : Res → M α) : M α := match args with
  | [a0] =>
      asP a0 fun x1 =>
      asSome x1 fun p2 =>
      spwrong.f k p2 (fun v => κ (.pan v)) (κ (.ret (.tuple [])))
  | _ => fail
noncomputable def env_42 (k : Nat) (args : List V) (κ : Res → M α) : M α := match args with
  | [a0] =>
      asStr a0 fun x1 =>
      syntax_word.f k x1 (fun o0 => κ (.ret (.bool o0)))
  | _ => fail
noncomputable def env_58 (k : Nat) (args : List V) (κ : Res → M α) : M α := match args with
  | [a0, a1] =>
      asP a0 fun x1 =>
      asSome x1 fun p2 =>
      asStr a1 fun x3 =>
      spneed.f k p2 x3 (fun v => κ (.pan v)) (κ (.ret (.tuple [])))
  | _ => fail
noncomputable def env_57 (k : Nat) (args : List V) (κ : Res → M α) : M α := match args with
  | [a0, a1] =>
      asP a0 fun x1 =>
      asSome x1 fun p2 =>
      asStr a1 fun x3 =>
      spstep.f k p2 x3 (fun v => κ (.pan v)) (fun o0 => κ (.ret (.str o0)))
  | _ => fail
noncomputable def env_22 (k : Nat) (args : List V) (κ : Res → M α) : M α := match args with
  | [a0] =>
      asP a0 fun x1 =>
      asSome x1 fun p2 =>
      spformula.f k p2 (fun v => κ (.pan v)) (fun o0 => κ (.ret (.int .i64 o0)))
  | _ => fail
noncomputable def env_33 (k : Nat) (args : List V) (κ : Res → M α) : M α := match args with
  | [a0, a1, a2, a3] =>
      asP a0 fun x1 =>
      asSome x1 fun p2 =>
      asStr a1 fun x3 =>
      asI .i64 a2 fun x4 =>
      sprow.f k p2 x3 x4 a3 (fun v => κ (.pan v)) (fun o0 => κ (.ret (.int .i64 o0)))
  | _ => fail
noncomputable def env_34 (k : Nat) (args : List V) (κ : Res → M α) : M α := match args with
  | [a0] =>
      asP a0 fun x1 =>
      asSome x1 fun p2 =>
      spand.f k p2 (fun v => κ (.pan v)) (fun o0 => κ (.ret (.int .i64 o0)))
  | _ => fail
noncomputable def env_50 (k : Nat) (args : List V) (κ : Res → M α) : M α := match args with
  | [a0] =>
      asP a0 fun x1 =>
      asSome x1 fun p2 =>
      spunary.f k p2 (fun v => κ (.pan v)) (fun o0 => κ (.ret (.int .i64 o0)))
  | _ => fail
noncomputable def env_59 (k : Nat) (args : List V) (κ : Res → M α) : M α := match args with
  | [a0] =>
      asP a0 fun x1 =>
      asSome x1 fun p2 =>
      spword.f k p2 (fun v => κ (.pan v)) (fun o0 => κ (.ret (.int .i64 o0)))
  | _ => fail
noncomputable def env_9 (k : Nat) (args : List V) (κ : Res → M α) : M α := match args with
  | [a0] =>
      asStr a0 fun x1 =>
      syntax_Parse.f k x1 (fun o0 o1 => κ (.ret (.tuple [.slice o0, o1])))
  | _ => fail
noncomputable def env_24 (k : Nat) (args : List V) (κ : Res → M α) : M α := match args with
  | [a0, a1] =>
      errors_As.f k a0 a1 (fun o0 => κ (.ret (.bool o0)))
  | _ => fail
noncomputable def env_41 (k : Nat) (args : List V) (κ : Res → M α) : M α := match args with
  | [a0, a1, a2] =>
      asStr a0 fun x1 =>
      asI .u8 a1 fun x2 =>
      asI .u8 a2 fun x3 =>
      syntax_spelt.f k x1 x2 x3 (fun o0 => κ (.ret (.bool o0)))
  | _ => fail
noncomputable def env_27 (k : Nat) (args : List V) (κ : Res → M α) : M α := match args with
  | [a0] =>
      asStr a0 fun x1 =>
      syntax_name.f k x1 (fun o0 => κ (.ret (.bool o0)))
  | _ => fail
noncomputable def env_28 (k : Nat) (args : List V) (κ : Res → M α) : M α := match args with
  | [a0] =>
      asStr a0 fun x1 =>
      syntax_variable.f k x1 (fun o0 => κ (.ret (.bool o0)))
  | _ => fail
noncomputable def env_14 (k : Nat) (args : List V) (κ : Res → M α) : M α := match args with
  | [a0] =>
      asAgg a0 fun l1 =>
      uncons l1 fun v2 l3 =>
      asI .i64 v2 fun x4 =>
      uncons l3 fun v5 l6 =>
      asI .i64 v5 fun x7 =>
      uncons l6 fun v8 l9 =>
      asI .i64 v8 fun x10 =>
      uncons l9 fun v11 l12 =>
      asStr v11 fun x13 =>
      uncons l12 fun v14 l15 =>
      asI .i64 v14 fun x16 =>
      unnil l15 <|
      syntax_below.f k x4 x7 x10 x13 x16 (fun o0 o1 => κ (.ret (.tuple [.int .i64 o0, .bool o1])))
  | _ => fail
noncomputable def env_16 (k : Nat) (args : List V) (κ : Res → M α) : M α := match args with
  | [a0] =>
      asI .i64 a0 fun x1 =>
      syntax_Right_c1.f k x1 (fun o0 => κ (.ret (.bool o0)))
  | _ => fail
noncomputable def env_29 (k : Nat) (args : List V) (κ : Res → M α) : M α := match args with
  | [a0, a1] =>
      asS a0 fun x1 =>
      asFunc a1 fun f2 l3 l4 =>
      need (Nat.beq f2 16) <|
      unnil l3 <|
      unnil l4 <|
      slices_IndexFunc_int_int_16.f k x1 (fun o0 => κ (.ret (.int .i64 o0)))
  | _ => fail
noncomputable def env_15 (k : Nat) (args : List V) (κ : Res → M α) : M α := match args with
  | [a0, a1] =>
      asS a0 fun x1 =>
      asFunc a1 fun f2 l3 l4 =>
      need (Nat.beq f2 16) <|
      unnil l3 <|
      unnil l4 <|
      slices_ContainsFunc_int_int_16.f k x1 (fun o0 => κ (.ret (.bool o0)))
  | _ => fail
noncomputable def env_17 (k : Nat) (args : List V) (κ : Res → M α) : M α := match args with
  | [a0, a1] =>
      asS a0 fun x1 =>
      asS a1 fun x2 =>
      slEq.f k x1 x2 (fun o0 => κ (.ret (.bool o0)))
  | _ => fail
noncomputable def env_8 (k : Nat) (args : List V) (κ : Res → M α) : M α := match args with
  | [a0] =>
      asS a0 fun x1 =>
      syntax_Right.f k x1 (fun o0 => κ (.ret (.bool o0)))
  | _ => fail
noncomputable def env_25 (k : Nat) (args : List V) (κ : Res → M α) : M α := match args with
  | [a0, a1] =>
      asP a0 fun x1 =>
      asSome x1 fun p2 =>
      asStr a1 fun x3 =>
      strings_Builder_WriteString.f k p2 x3 (fun o0 o1 => κ (.ret (.tuple [.int .i64 o0, o1])))
  | _ => fail
noncomputable def env_40 (k : Nat) (args : List V) (κ : Res → M α) : M α := match args with
  | [a0] =>
      asI .i64 a0 fun x1 =>
      syntax_fix.f k x1 (fun o0 => κ (.ret (.bool o0)))
  | _ => fail
noncomputable def env_12 (k : Nat) (args : List V) (κ : Res → M α) : M α := match args with
  | [a0, a1, a2] =>
      asP a0 fun x1 =>
      asSome x1 fun p2 =>
      asS a1 fun x3 =>
      asI .i64 a2 fun x4 =>
      syntax_write.f k p2 x3 x4 (κ (.ret (.tuple [])))
  | _ => fail
noncomputable def env_26 (k : Nat) (args : List V) (κ : Res → M α) : M α := match args with
  | [a0, a1, a2, a3, a4] =>
      asP a0 fun x1 =>
      asSome x1 fun p2 =>
      asS a1 fun x3 =>
      asI .i64 a2 fun x4 =>
      asI .i64 a3 fun x5 =>
      asB a4 fun x6 =>
      syntax_operand.f k p2 x3 x4 x5 x6 (κ (.ret (.tuple [])))
  | _ => fail
noncomputable def env_7 (k : Nat) (args : List V) (κ : Res → M α) : M α := match args with
  | [a0] =>
      asS a0 fun x1 =>
      syntax_Print.f k x1 (fun o0 => κ (.ret (.str o0)))
  | _ => fail
noncomputable def env_6 (k : Nat) (args : List V) (κ : Res → M α) : M α := match args with
  | [] =>
      w4shown.f k (fun o0 => κ (.ret (.bool o0)))
  | _ => fail
noncomputable def env_11 (k : Nat) (args : List V) (κ : Res → M α) : M α := match args with
  | [a0] =>
      w4fault.f k a0 (fun o0 o1 => κ (.ret (.agg [.int .i64 o0, .int .i64 o1])))
  | _ => fail
noncomputable def env_4 (k : Nat) (args : List V) (κ : Res → M α) : M α := match args with
  | [a0] =>
      asStr a0 fun x1 =>
      w4SyntaxBrackets.f k x1 (fun o0 => κ (.ret (.bool o0)))
  | _ => fail
noncomputable def env_10 (k : Nat) (args : List V) (κ : Res → M α) : M α := match args with
  | [a0, a1, a2] =>
      asS a0 fun x1 =>
      asS a1 fun x2 =>
      asB a2 fun x3 =>
      r4Same.f k x1 x2 x3 (fun o0 => κ (.ret (.bool o0)))
  | _ => fail
noncomputable def env (k : Nat) : Call α := fun f args κ => match f with
  | 55 => env_55 k args κ
  | 39 => env_39 k args κ
  | 13 => env_13 k args κ
  | 43 => env_43 k args κ
  | 30 => env_30 k args κ
  | 44 => env_44 k args κ
  | 45 => env_45 k args κ
  | 46 => env_46 k args κ
  | 31 => env_31 k args κ
  | 18 => env_18 k args κ
  | 21 => env_21 k args κ
  | 32 => env_32 k args κ
  | 20 => env_20 k args κ
  | 47 => env_47 k args κ
  | 56 => env_56 k args κ
  | 48 => env_48 k args κ
  | 49 => env_49 k args κ
  | 23 => env_23 k args κ
  | 42 => env_42 k args κ
  | 58 => env_58 k args κ
  | 57 => env_57 k args κ
  | 22 => env_22 k args κ
  | 33 => env_33 k args κ
  | 34 => env_34 k args κ
  | 50 => env_50 k args κ
  | 59 => env_59 k args κ
  | 9 => env_9 k args κ
  | 24 => env_24 k args κ
  | 41 => env_41 k args κ
  | 27 => env_27 k args κ
  | 28 => env_28 k args κ
  | 14 => env_14 k args κ
  | 16 => env_16 k args κ
  | 29 => env_29 k args κ
  | 15 => env_15 k args κ
  | 17 => env_17 k args κ
  | 8 => env_8 k args κ
  | 25 => env_25 k args κ
  | 40 => env_40 k args κ
  | 12 => env_12 k args κ
  | 26 => env_26 k args κ
  | 7 => env_7 k args κ
  | 6 => env_6 k args κ
  | 11 => env_11 k args κ
  | 4 => env_4 k args κ
  | 10 => env_10 k args κ
  | _ => fail
noncomputable def stringslite_IndexByte.c : IC := stringslite_IndexByte.u1.c
noncomputable def stringslite_IndexByte.res : List ResultVar := [(.tmp 4)]
theorem stringslite_IndexByte.u1.ok (k : Nat) (x0 : List UInt8) (x1 : Int) (K : Ex → Frame → M α) :
    evC T (env k) k stringslite_IndexByte.u1.c (frameL [(0, .str x0), (1, .int .u8 x1)]) K =
      stringslite_IndexByte.u1.f k x0 x1 (fun y0 => K .ret (frameL [(4, .int .i64 y0)])) := by kernel_rfl
theorem stringslite_IndexByte.ok (k : Nat) (x0 : List UInt8) (x1 : Int) (κ : Res → M α) :
    evF T (env k) k stringslite_IndexByte.c stringslite_IndexByte.res [.str x0, .int .u8 x1] κ = stringslite_IndexByte.f (k + 1) x0 x1 (fun o0 => κ (.ret (.int .i64 o0))) :=
  (stringslite_IndexByte.u1.ok k x0 x1 (retK T stringslite_IndexByte.res κ)).trans (by kernel_rfl)
theorem stringslite_IndexByte.code : stringslite_IndexByte.c.code = bodyOf Tryd.f43 := by kernel_rfl
noncomputable def strings_IndexByte.c : IC := strings_IndexByte.u1.c
noncomputable def strings_IndexByte.res : List ResultVar := [(.tmp 4)]
theorem strings_IndexByte.u1.ok (k : Nat) (x0 : List UInt8) (x1 : Int) (K : Ex → Frame → M α) :
    evC T (env k) k strings_IndexByte.u1.c (frameL [(0, .str x0), (1, .int .u8 x1)]) K =
      strings_IndexByte.u1.f k x0 x1 (fun y0 => K .ret (frameL [(4, .int .i64 y0)])) := by kernel_rfl
theorem strings_IndexByte.ok (k : Nat) (x0 : List UInt8) (x1 : Int) (κ : Res → M α) :
    evF T (env k) k strings_IndexByte.c strings_IndexByte.res [.str x0, .int .u8 x1] κ = strings_IndexByte.f (k + 1) x0 x1 (fun o0 => κ (.ret (.int .i64 o0))) :=
  (strings_IndexByte.u1.ok k x0 x1 (retK T strings_IndexByte.res κ)).trans (by kernel_rfl)
theorem strings_IndexByte.code : strings_IndexByte.c.code = bodyOf Tryd.f30 := by kernel_rfl
noncomputable def scan_kind.c : IC := scan_kind.u1.c
noncomputable def scan_kind.res : List ResultVar := [(.tmp 2)]
theorem scan_kind.u1.ok (k : Nat) (x0 : Int) (K : Ex → Frame → M α) :
    evC T (env k) k scan_kind.u1.c (frameL [(0, .int .u8 x0)]) K =
      scan_kind.u1.f k x0 (fun y0 => K .ret (frameL [(2, .int .i64 y0)])) := by kernel_rfl
theorem scan_kind.ok (k : Nat) (x0 : Int) (κ : Res → M α) :
    evF T (env k) k scan_kind.c scan_kind.res [.int .u8 x0] κ = scan_kind.f (k + 1) x0 (fun o0 => κ (.ret (.int .i64 o0))) :=
  (scan_kind.u1.ok k x0 (retK T scan_kind.res κ)).trans (by kernel_rfl)
theorem scan_kind.code : scan_kind.c.code = bodyOf Tryd.f44 := by kernel_rfl
noncomputable def scan_long.c : IC := scan_long.u20.c
noncomputable def scan_long.res : List ResultVar := [(.tmp 4)]
theorem scan_long.u1.ok (k : Nat) (x0 : Int) (x1 : List UInt8) (R : IC) (K : Ex → Frame → M α) :
    evC T (env k) k (scan_long.u1.c R) (frameL [(0, .int .i64 x0), (1, .str x1)]) K =
      scan_long.u1.f k x0 x1 (fun y0 y1 y2 => evC T (env k) k R (frameL [(0, .int .i64 y0), (1, .str y1), (5, .int .i64 y2)]) K) := by kernel_rfl
theorem scan_long.u2.ok (k : Nat) (x0 : Int) (x1 : List UInt8) (x2 : Int) (R : IC) (K : Ex → Frame → M α) :
    evC T (env k) k (scan_long.u2.c R) (frameL [(0, .int .i64 x0), (1, .str x1), (5, .int .i64 x2)]) K =
      scan_long.u2.f k x0 x1 x2 (fun y0 y1 y2 => evC T (env k) k R (frameL [(1, .str y0), (5, .int .i64 y1), (6, .int .i64 y2)]) K) := by kernel_rfl
theorem scan_long.u3.ok (k : Nat) (x0 : List UInt8) (x1 : Int) (x2 : Int) (R : IC) (K : Ex → Frame → M α) :
    evC T (env k) k (scan_long.u3.c R) (frameL [(1, .str x0), (5, .int .i64 x1), (6, .int .i64 x2)]) K =
      scan_long.u3.f k x0 x1 x2 (fun y0 y1 y2 y3 => evC T (env k) k R (frameL [(1, .str y0), (5, .int .i64 y1), (6, .int .i64 y2), (7, .bool y3)]) K) := by kernel_rfl
theorem scan_long.u4.ok (k : Nat) (x0 : List UInt8) (x1 : Int) (K : Ex → Frame → M α) :
    evC T (env k) k scan_long.u4.c (frameL [(1, .str x0), (5, .int .i64 x1)]) K =
      scan_long.u4.f k x0 x1 (fun y0 y1 => K .normal (frameL [(1, .str y0), (5, .int .i64 y1)])) (fun y0 => K (.exit 1) (frameL [(5, .int .i64 y0)])) := by kernel_rfl
theorem scan_long.u5.ls (k : Nat) (kx1 : Int → M α) (j : Nat) (x0 : List UInt8) (x1 : Int) : scan_long.u5.l k kx1 (j + 1) x0 x1 =
  scan_long.u4.f k x0 x1 (fun y0 y1 => scan_long.u5.l k kx1 j y0 y1) kx1 := rfl
theorem scan_long.u5.okl (k : Nat) (K : Ex → Frame → M α) : ∀ (j : Nat) (x0 : List UInt8) (x1 : Int),
    evLoop (evC T (env k) k scan_long.u4.c) [1, 5] j (frameL [(1, .str x0), (5, .int .i64 x1)]) K = scan_long.u5.l k (fun y0 => K (.exit 1) (frameL [(5, .int .i64 y0)])) j x0 x1
  | 0, _, _ => rfl
  | j + 1, x0, x1 => by
      have h := scan_long.u4.ok k x0 x1 (seqK (fun ρ => evLoop (evC T (env k) k scan_long.u4.c) [1, 5] j ρ K) K)
      simp only [seqK_exit, seqK_ret, seqK_pan, seqK_normal, scan_long.u5.okl k K j] at h
      exact (evLoop_step (by kernel_rfl) h).trans (scan_long.u5.ls k (fun y0 => K (.exit 1) (frameL [(5, .int .i64 y0)])) j x0 x1).symm
theorem scan_long.u5.ok (k : Nat) (x0 : List UInt8) (x1 : Int) (x2 : Int) (x3 : Bool) (K : Ex → Frame → M α) :
    evC T (env k) k scan_long.u5.c (frameL [(1, .str x0), (5, .int .i64 x1), (6, .int .i64 x2), (7, .bool x3)]) K =
      scan_long.u5.f k x0 x1 x2 x3 (fun y0 => K (.exit 1) (frameL [(5, .int .i64 y0)])) :=
  evC_loop.trans <| (evLoop_keep (body := evC T (env k) k scan_long.u4.c) (keep := [1, 5]) (ρ := (frameL [(1, .str x0), (5, .int .i64 x1), (6, .int .i64 x2), (7, .bool x3)])) (ρ' := (frameL [(1, .str x0), (5, .int .i64 x1)])) (by kernel_rfl) k K).trans (scan_long.u5.okl k K k x0 x1)
theorem scan_long.u6.ok (k : Nat) (x0 : List UInt8) (x1 : Int) (x2 : Int) (x3 : Bool) (K : Ex → Frame → M α) :
    evC T (env k) k scan_long.u6.c (frameL [(1, .str x0), (5, .int .i64 x1), (6, .int .i64 x2), (7, .bool x3)]) K =
      scan_long.u6.f k x0 x1 x2 x3 (fun y0 => K .normal (frameL [(5, .int .i64 y0)])) :=
  (evC_block.trans (scan_long.u5.ok k x0 x1 x2 x3 (blockK 1 K))).trans (by kernel_rfl)
theorem scan_long.u7.ok (k : Nat) (x0 : List UInt8) (x1 : Int) (x2 : Int) (x3 : Bool) (R : IC) (K : Ex → Frame → M α) :
    evC T (env k) k (scan_long.u7.c R) (frameL [(1, .str x0), (5, .int .i64 x1), (6, .int .i64 x2), (7, .bool x3)]) K =
      scan_long.u7.f k x0 x1 x2 x3 (fun y0 y1 y2 => evC T (env k) k R (frameL [(1, .str y0), (5, .int .i64 y1), (27, .bool y2)]) K) := by kernel_rfl
theorem scan_long.u8.ok (k : Nat) (x0 : List UInt8) (x1 : Int) (K : Ex → Frame → M α) :
    evC T (env k) k scan_long.u8.c (frameL [(1, .str x0), (5, .int .i64 x1)]) K =
      scan_long.u8.f k x0 x1 (fun y0 y1 => K .normal (frameL [(1, .str y0), (5, .int .i64 y1)])) (fun y0 => K (.exit 3) (frameL [(5, .int .i64 y0)])) := by kernel_rfl
theorem scan_long.u9.ls (k : Nat) (kx3 : Int → M α) (j : Nat) (x0 : List UInt8) (x1 : Int) : scan_long.u9.l k kx3 (j + 1) x0 x1 =
  scan_long.u8.f k x0 x1 (fun y0 y1 => scan_long.u9.l k kx3 j y0 y1) kx3 := rfl
theorem scan_long.u9.okl (k : Nat) (K : Ex → Frame → M α) : ∀ (j : Nat) (x0 : List UInt8) (x1 : Int),
    evLoop (evC T (env k) k scan_long.u8.c) [1, 5] j (frameL [(1, .str x0), (5, .int .i64 x1)]) K = scan_long.u9.l k (fun y0 => K (.exit 3) (frameL [(5, .int .i64 y0)])) j x0 x1
  | 0, _, _ => rfl
  | j + 1, x0, x1 => by
      have h := scan_long.u8.ok k x0 x1 (seqK (fun ρ => evLoop (evC T (env k) k scan_long.u8.c) [1, 5] j ρ K) K)
      simp only [seqK_exit, seqK_ret, seqK_pan, seqK_normal, scan_long.u9.okl k K j] at h
      exact (evLoop_step (by kernel_rfl) h).trans (scan_long.u9.ls k (fun y0 => K (.exit 3) (frameL [(5, .int .i64 y0)])) j x0 x1).symm
theorem scan_long.u9.ok (k : Nat) (x0 : List UInt8) (x1 : Int) (x2 : Bool) (K : Ex → Frame → M α) :
    evC T (env k) k scan_long.u9.c (frameL [(1, .str x0), (5, .int .i64 x1), (27, .bool x2)]) K =
      scan_long.u9.f k x0 x1 x2 (fun y0 => K (.exit 3) (frameL [(5, .int .i64 y0)])) :=
  evC_loop.trans <| (evLoop_keep (body := evC T (env k) k scan_long.u8.c) (keep := [1, 5]) (ρ := (frameL [(1, .str x0), (5, .int .i64 x1), (27, .bool x2)])) (ρ' := (frameL [(1, .str x0), (5, .int .i64 x1)])) (by kernel_rfl) k K).trans (scan_long.u9.okl k K k x0 x1)
theorem scan_long.u10.ok (k : Nat) (x0 : List UInt8) (x1 : Int) (x2 : Bool) (K : Ex → Frame → M α) :
    evC T (env k) k scan_long.u10.c (frameL [(1, .str x0), (5, .int .i64 x1), (27, .bool x2)]) K =
      scan_long.u10.f k x0 x1 x2 (fun y0 => K .normal (frameL [(5, .int .i64 y0)])) :=
  (evC_block.trans (scan_long.u9.ok k x0 x1 x2 (blockK 3 K))).trans (by kernel_rfl)
theorem scan_long.u11.ok (k : Nat) (x0 : List UInt8) (x1 : Int) (x2 : Bool) (K : Ex → Frame → M α) :
    evC T (env k) k scan_long.u11.c (frameL [(1, .str x0), (5, .int .i64 x1), (27, .bool x2)]) K =
      scan_long.u11.f k x0 x1 x2 (fun y0 => K .normal (frameL [(5, .int .i64 y0)])) := by kernel_rfl
theorem scan_long.u12.ok (k : Nat) (x0 : List UInt8) (x1 : Int) (x2 : Bool) (K : Ex → Frame → M α) :
    evC T (env k) k scan_long.u12.c (frameL [(1, .str x0), (5, .int .i64 x1), (27, .bool x2)]) K =
      scan_long.u12.f k x0 x1 x2 (fun y0 => K .normal (frameL [(5, .int .i64 y0)])) :=
  evC_cond_run (g := x2) (by kernel_rfl) (scan_long.u10.ok k x0 x1 x2 K) (scan_long.u11.ok k x0 x1 x2 K)
theorem scan_long.u13.ok (k : Nat) (x0 : List UInt8) (x1 : Int) (x2 : Int) (x3 : Bool) (K : Ex → Frame → M α) :
    evC T (env k) k scan_long.u13.c (frameL [(1, .str x0), (5, .int .i64 x1), (6, .int .i64 x2), (7, .bool x3)]) K =
      scan_long.u13.f k x0 x1 x2 x3 (fun y0 => K .normal (frameL [(5, .int .i64 y0)])) :=
  (scan_long.u7.ok k x0 x1 x2 x3 scan_long.u12.c K).trans
    (congrArg (fun z => scan_long.u7.f k x0 x1 x2 x3 z) (funext fun y0 => (funext fun y1 => (funext fun y2 => scan_long.u12.ok k y0 y1 y2 K))))
theorem scan_long.u14.ok (k : Nat) (x0 : List UInt8) (x1 : Int) (x2 : Int) (x3 : Bool) (K : Ex → Frame → M α) :
    evC T (env k) k scan_long.u14.c (frameL [(1, .str x0), (5, .int .i64 x1), (6, .int .i64 x2), (7, .bool x3)]) K =
      scan_long.u14.f k x0 x1 x2 x3 (fun y0 => K .normal (frameL [(5, .int .i64 y0)])) :=
  evC_cond_run (g := x3) (by kernel_rfl) (scan_long.u6.ok k x0 x1 x2 x3 K) (scan_long.u13.ok k x0 x1 x2 x3 K)
theorem scan_long.u15.ok (k : Nat) (x0 : List UInt8) (x1 : Int) (x2 : Int) (K : Ex → Frame → M α) :
    evC T (env k) k scan_long.u15.c (frameL [(1, .str x0), (5, .int .i64 x1), (6, .int .i64 x2)]) K =
      scan_long.u15.f k x0 x1 x2 (fun y0 => K .normal (frameL [(5, .int .i64 y0)])) :=
  (scan_long.u3.ok k x0 x1 x2 scan_long.u14.c K).trans
    (congrArg (fun z => scan_long.u3.f k x0 x1 x2 z) (funext fun y0 => (funext fun y1 => (funext fun y2 => (funext fun y3 => scan_long.u14.ok k y0 y1 y2 y3 K)))))
theorem scan_long.u16.ok (k : Nat) (x0 : List UInt8) (x1 : Int) (x2 : Int) (K : Ex → Frame → M α) :
    evC T (env k) k scan_long.u16.c (frameL [(1, .str x0), (5, .int .i64 x1), (6, .int .i64 x2)]) K =
      scan_long.u16.f k x0 x1 x2 (fun y0 => K .normal (frameL [(5, .int .i64 y0)])) :=
  (evC_block.trans (scan_long.u15.ok k x0 x1 x2 (blockK 0 K))).trans (by kernel_rfl)
theorem scan_long.u17.ok (k : Nat) (x0 : Int) (x1 : List UInt8) (x2 : Int) (K : Ex → Frame → M α) :
    evC T (env k) k scan_long.u17.c (frameL [(0, .int .i64 x0), (1, .str x1), (5, .int .i64 x2)]) K =
      scan_long.u17.f k x0 x1 x2 (fun y0 => K .normal (frameL [(5, .int .i64 y0)])) :=
  (scan_long.u2.ok k x0 x1 x2 scan_long.u16.c K).trans
    (congrArg (fun z => scan_long.u2.f k x0 x1 x2 z) (funext fun y0 => (funext fun y1 => (funext fun y2 => scan_long.u16.ok k y0 y1 y2 K))))
theorem scan_long.u18.ok (k : Nat) (x0 : Int) (K : Ex → Frame → M α) :
    evC T (env k) k scan_long.u18.c (frameL [(5, .int .i64 x0)]) K =
      scan_long.u18.f k x0 (fun y0 => K .ret (frameL [(4, .int .i64 y0)])) := by kernel_rfl
theorem scan_long.u19.ok (k : Nat) (x0 : Int) (x1 : List UInt8) (x2 : Int) (K : Ex → Frame → M α) :
    evC T (env k) k scan_long.u19.c (frameL [(0, .int .i64 x0), (1, .str x1), (5, .int .i64 x2)]) K =
      scan_long.u19.f k x0 x1 x2 (fun y0 => K .ret (frameL [(4, .int .i64 y0)])) :=
  by
    have h := scan_long.u17.ok k x0 x1 x2 (seqK (fun ρ => evC T (env k) k scan_long.u18.c ρ K) K)
    simp only [seqK_normal, seqK_exit, seqK_ret, seqK_pan, scan_long.u18.ok] at h
    exact evC_seq_of h
theorem scan_long.u20.ok (k : Nat) (x0 : Int) (x1 : List UInt8) (K : Ex → Frame → M α) :
    evC T (env k) k scan_long.u20.c (frameL [(0, .int .i64 x0), (1, .str x1)]) K =
      scan_long.u20.f k x0 x1 (fun y0 => K .ret (frameL [(4, .int .i64 y0)])) :=
  (scan_long.u1.ok k x0 x1 scan_long.u19.c K).trans
    (congrArg (fun z => scan_long.u1.f k x0 x1 z) (funext fun y0 => (funext fun y1 => (funext fun y2 => scan_long.u19.ok k y0 y1 y2 K))))
theorem scan_long.ok (k : Nat) (x0 : Int) (x1 : List UInt8) (κ : Res → M α) :
    evF T (env k) k scan_long.c scan_long.res [.int .i64 x0, .str x1] κ = scan_long.f (k + 1) x0 x1 (fun o0 => κ (.ret (.int .i64 o0))) :=
  (scan_long.u20.ok k x0 x1 (retK T scan_long.res κ)).trans (by kernel_rfl)
theorem scan_long.code : scan_long.c.code = bodyOf Tryd.f45 := by kernel_rfl
noncomputable def scan_value.c : IC := scan_value.u11.c
noncomputable def scan_value.res : List ResultVar := [(.tmp 2), (.tmp 3)]
theorem scan_value.u1.ok (k : Nat) (x0 : List UInt8) (R : IC) (K : Ex → Frame → M α) :
    evC T (env k) k (scan_value.u1.c R) (frameL [(0, .str x0)]) K =
      scan_value.u1.f k x0 (fun y0 => evC T (env k) k R (frameL [(0, .str y0)]) K) (fun y0 y1 => K .ret (frameL [(2, .int .i64 y0), (3, .bool y1)])) := by kernel_rfl
theorem scan_value.u2.ok (k : Nat) (x0 : List UInt8) (R : IC) (K : Ex → Frame → M α) :
    evC T (env k) k (scan_value.u2.c R) (frameL [(0, .str x0)]) K =
      scan_value.u2.f k x0 (fun y0 y1 => evC T (env k) k R (frameL [(0, .str y0), (4, .int .i64 y1)]) K) := by kernel_rfl
theorem scan_value.u3.ok (k : Nat) (x0 : List UInt8) (x1 : Int) (R : IC) (K : Ex → Frame → M α) :
    evC T (env k) k (scan_value.u3.c R) (frameL [(0, .str x0), (4, .int .i64 x1)]) K =
      scan_value.u3.f k x0 x1 (fun y0 y1 y2 y3 => evC T (env k) k R (frameL [(0, .str y0), (4, .int .i64 y1), (20, .int .i64 y2), (21, .int .i64 y3)]) K) := by kernel_rfl
theorem scan_value.u4.ok (k : Nat) (x0 : List UInt8) (x1 : Int) (x2 : Int) (x3 : Int) (K : Ex → Frame → M α) :
    evC T (env k) k scan_value.u4.c (frameL [(0, .str x0), (4, .int .i64 x1), (20, .int .i64 x2), (21, .int .i64 x3)]) K =
      scan_value.u4.f k x0 x1 x2 x3 (fun y0 y1 y2 y3 => K .normal (frameL [(0, .str y0), (4, .int .i64 y1), (20, .int .i64 y2), (21, .int .i64 y3)])) (fun y0 => K (.exit 0) (frameL [(4, .int .i64 y0)])) := by kernel_rfl
theorem scan_value.u5.ls (k : Nat) (kx0 : Int → M α) (j : Nat) (x0 : List UInt8) (x1 : Int) (x2 : Int) (x3 : Int) : scan_value.u5.l k kx0 (j + 1) x0 x1 x2 x3 =
  scan_value.u4.f k x0 x1 x2 x3 (fun y0 y1 y2 y3 => scan_value.u5.l k kx0 j y0 y1 y2 y3) kx0 := rfl
theorem scan_value.u5.okl (k : Nat) (K : Ex → Frame → M α) : ∀ (j : Nat) (x0 : List UInt8) (x1 : Int) (x2 : Int) (x3 : Int),
    evLoop (evC T (env k) k scan_value.u4.c) [0, 4, 20, 21] j (frameL [(0, .str x0), (4, .int .i64 x1), (20, .int .i64 x2), (21, .int .i64 x3)]) K = scan_value.u5.l k (fun y0 => K (.exit 0) (frameL [(4, .int .i64 y0)])) j x0 x1 x2 x3
  | 0, _, _, _, _ => rfl
  | j + 1, x0, x1, x2, x3 => by
      have h := scan_value.u4.ok k x0 x1 x2 x3 (seqK (fun ρ => evLoop (evC T (env k) k scan_value.u4.c) [0, 4, 20, 21] j ρ K) K)
      simp only [seqK_exit, seqK_ret, seqK_pan, seqK_normal, scan_value.u5.okl k K j] at h
      exact (evLoop_step (by kernel_rfl) h).trans (scan_value.u5.ls k (fun y0 => K (.exit 0) (frameL [(4, .int .i64 y0)])) j x0 x1 x2 x3).symm
theorem scan_value.u5.ok (k : Nat) (x0 : List UInt8) (x1 : Int) (x2 : Int) (x3 : Int) (K : Ex → Frame → M α) :
    evC T (env k) k scan_value.u5.c (frameL [(0, .str x0), (4, .int .i64 x1), (20, .int .i64 x2), (21, .int .i64 x3)]) K =
      scan_value.u5.f k x0 x1 x2 x3 (fun y0 => K (.exit 0) (frameL [(4, .int .i64 y0)])) :=
  evC_loop.trans <| (evLoop_keep (body := evC T (env k) k scan_value.u4.c) (keep := [0, 4, 20, 21]) (ρ := (frameL [(0, .str x0), (4, .int .i64 x1), (20, .int .i64 x2), (21, .int .i64 x3)])) (ρ' := (frameL [(0, .str x0), (4, .int .i64 x1), (20, .int .i64 x2), (21, .int .i64 x3)])) (by kernel_rfl) k K).trans (scan_value.u5.okl k K k x0 x1 x2 x3)
theorem scan_value.u6.ok (k : Nat) (x0 : List UInt8) (x1 : Int) (x2 : Int) (x3 : Int) (K : Ex → Frame → M α) :
    evC T (env k) k scan_value.u6.c (frameL [(0, .str x0), (4, .int .i64 x1), (20, .int .i64 x2), (21, .int .i64 x3)]) K =
      scan_value.u6.f k x0 x1 x2 x3 (fun y0 => K .normal (frameL [(4, .int .i64 y0)])) :=
  (evC_block.trans (scan_value.u5.ok k x0 x1 x2 x3 (blockK 0 K))).trans (by kernel_rfl)
theorem scan_value.u7.ok (k : Nat) (x0 : List UInt8) (x1 : Int) (K : Ex → Frame → M α) :
    evC T (env k) k scan_value.u7.c (frameL [(0, .str x0), (4, .int .i64 x1)]) K =
      scan_value.u7.f k x0 x1 (fun y0 => K .normal (frameL [(4, .int .i64 y0)])) :=
  (scan_value.u3.ok k x0 x1 scan_value.u6.c K).trans
    (congrArg (fun z => scan_value.u3.f k x0 x1 z) (funext fun y0 => (funext fun y1 => (funext fun y2 => (funext fun y3 => scan_value.u6.ok k y0 y1 y2 y3 K)))))
theorem scan_value.u8.ok (k : Nat) (x0 : Int) (K : Ex → Frame → M α) :
    evC T (env k) k scan_value.u8.c (frameL [(4, .int .i64 x0)]) K =
      scan_value.u8.f k x0 (fun y0 y1 => K .ret (frameL [(2, .int .i64 y0), (3, .bool y1)])) := by kernel_rfl
theorem scan_value.u9.ok (k : Nat) (x0 : List UInt8) (x1 : Int) (K : Ex → Frame → M α) :
    evC T (env k) k scan_value.u9.c (frameL [(0, .str x0), (4, .int .i64 x1)]) K =
      scan_value.u9.f k x0 x1 (fun y0 y1 => K .ret (frameL [(2, .int .i64 y0), (3, .bool y1)])) :=
  by
    have h := scan_value.u7.ok k x0 x1 (seqK (fun ρ => evC T (env k) k scan_value.u8.c ρ K) K)
    simp only [seqK_normal, seqK_exit, seqK_ret, seqK_pan, scan_value.u8.ok] at h
    exact evC_seq_of h
theorem scan_value.u10.ok (k : Nat) (x0 : List UInt8) (K : Ex → Frame → M α) :
    evC T (env k) k scan_value.u10.c (frameL [(0, .str x0)]) K =
      scan_value.u10.f k x0 (fun y0 y1 => K .ret (frameL [(2, .int .i64 y0), (3, .bool y1)])) :=
  (scan_value.u2.ok k x0 scan_value.u9.c K).trans
    (congrArg (fun z => scan_value.u2.f k x0 z) (funext fun y0 => (funext fun y1 => scan_value.u9.ok k y0 y1 K)))
theorem scan_value.u11.ok (k : Nat) (x0 : List UInt8) (K : Ex → Frame → M α) :
    evC T (env k) k scan_value.u11.c (frameL [(0, .str x0)]) K =
      scan_value.u11.f k x0 (fun y0 y1 => K .ret (frameL [(2, .int .i64 y0), (3, .bool y1)])) :=
  (scan_value.u1.ok k x0 scan_value.u10.c K).trans
    (congrArg (fun z => scan_value.u1.f k x0 z (fun y0 y1 => K .ret (frameL [(2, .int .i64 y0), (3, .bool y1)]))) (funext fun y0 => scan_value.u10.ok k y0 K))
theorem scan_value.ok (k : Nat) (x0 : List UInt8) (κ : Res → M α) :
    evF T (env k) k scan_value.c scan_value.res [.str x0] κ = scan_value.f (k + 1) x0 (fun o0 o1 => κ (.ret (.tuple [.int .i64 o0, .bool o1]))) :=
  (scan_value.u11.ok k x0 (retK T scan_value.res κ)).trans (by kernel_rfl)
theorem scan_value.code : scan_value.c.code = bodyOf Tryd.f46 := by kernel_rfl
noncomputable def scan_token.c : IC := scan_token.u1.c
noncomputable def scan_token.res : List ResultVar := [(.cell 4 60), (.tmp 5)]
theorem scan_token.u1.ok (k : Nat) (x0 : List UInt8) (x1 : Int) (K : Ex → Frame → M α) :
    evC T (env k) k scan_token.u1.c (frameL [(0, .str x0), (1, .int .i64 x1)]) K =
      scan_token.u1.f k x0 x1 (fun y0 y1 => K .ret (frameL [(4, .ptr (some y0)), (5, .int .i64 y1)])) := by kernel_rfl
theorem scan_token.ok (k : Nat) (x0 : List UInt8) (x1 : Int) (κ : Res → M α) :
    evF T (env k) k scan_token.c scan_token.res [.str x0, .int .i64 x1] κ = scan_token.f (k + 1) x0 x1 (fun o0 o1 o2 o3 o4 => κ (.ret (.tuple [.agg [.int .i64 o0, .int .i64 o1, .str o2, .int .i64 o3], .int .i64 o4]))) :=
  (scan_token.u1.ok k x0 x1 (retK T scan_token.res κ)).trans (by kernel_rfl)
theorem scan_token.code : scan_token.c.code = bodyOf Tryd.f31 := by kernel_rfl
noncomputable def scan_All.c : IC := scan_All.u9.c
noncomputable def scan_All.res : List ResultVar := [(.tmp 2), (.tmp 3)]
theorem scan_All.u1.ok (k : Nat) (x0 : List UInt8) (R : IC) (K : Ex → Frame → M α) :
    evC T (env k) k (scan_All.u1.c R) (frameL [(0, .str x0)]) K =
      scan_All.u1.f k x0 (fun y0 y1 => evC T (env k) k R (frameL [(0, .str y0), (4, .slice y1)]) K) (fun y0 y1 => K .ret (frameL [(2, .slice y0), (3, .iface 56 (.ptr (some y1)))])) := by kernel_rfl
theorem scan_All.u2.ok (k : Nat) (x0 : List UInt8) (x1 : Sl) (R : IC) (K : Ex → Frame → M α) :
    evC T (env k) k (scan_All.u2.c R) (frameL [(0, .str x0), (4, .slice x1)]) K =
      scan_All.u2.f k x0 x1 (fun y0 y1 y2 => evC T (env k) k R (frameL [(0, .str y0), (4, .slice y1), (5, .int .i64 y2)]) K) := by kernel_rfl
theorem scan_All.u3.ok (k : Nat) (x0 : List UInt8) (x1 : Sl) (x2 : Int) (K : Ex → Frame → M α) :
    evC T (env k) k scan_All.u3.c (frameL [(0, .str x0), (4, .slice x1), (5, .int .i64 x2)]) K =
      scan_All.u3.f k x0 x1 x2 (fun y0 y1 y2 => K .normal (frameL [(0, .str y0), (4, .slice y1), (5, .int .i64 y2)])) (fun y0 y1 => K .ret (frameL [(2, .slice y0), (3, .iface 56 (.ptr (some y1)))])) (fun y0 y1 => K (.exit 0) (frameL [(0, .str y0), (4, .slice y1)])) := by kernel_rfl
theorem scan_All.u4.ls (k : Nat) (kr : Sl → Ad → M α) (kx0 : List UInt8 → Sl → M α) (j : Nat) (x0 : List UInt8) (x1 : Sl) (x2 : Int) : scan_All.u4.l k kr kx0 (j + 1) x0 x1 x2 =
  scan_All.u3.f k x0 x1 x2 (fun y0 y1 y2 => scan_All.u4.l k kr kx0 j y0 y1 y2) kr kx0 := rfl
theorem scan_All.u4.okl (k : Nat) (K : Ex → Frame → M α) : ∀ (j : Nat) (x0 : List UInt8) (x1 : Sl) (x2 : Int),
    evLoop (evC T (env k) k scan_All.u3.c) [0, 4, 5] j (frameL [(0, .str x0), (4, .slice x1), (5, .int .i64 x2)]) K = scan_All.u4.l k (fun y0 y1 => K .ret (frameL [(2, .slice y0), (3, .iface 56 (.ptr (some y1)))])) (fun y0 y1 => K (.exit 0) (frameL [(0, .str y0), (4, .slice y1)])) j x0 x1 x2
  | 0, _, _, _ => rfl
  | j + 1, x0, x1, x2 => by
      have h := scan_All.u3.ok k x0 x1 x2 (seqK (fun ρ => evLoop (evC T (env k) k scan_All.u3.c) [0, 4, 5] j ρ K) K)
      simp only [seqK_exit, seqK_ret, seqK_pan, seqK_normal, scan_All.u4.okl k K j] at h
      exact (evLoop_step (by kernel_rfl) h).trans (scan_All.u4.ls k (fun y0 y1 => K .ret (frameL [(2, .slice y0), (3, .iface 56 (.ptr (some y1)))])) (fun y0 y1 => K (.exit 0) (frameL [(0, .str y0), (4, .slice y1)])) j x0 x1 x2).symm
theorem scan_All.u4.ok (k : Nat) (x0 : List UInt8) (x1 : Sl) (x2 : Int) (K : Ex → Frame → M α) :
    evC T (env k) k scan_All.u4.c (frameL [(0, .str x0), (4, .slice x1), (5, .int .i64 x2)]) K =
      scan_All.u4.f k x0 x1 x2 (fun y0 y1 => K .ret (frameL [(2, .slice y0), (3, .iface 56 (.ptr (some y1)))])) (fun y0 y1 => K (.exit 0) (frameL [(0, .str y0), (4, .slice y1)])) :=
  evC_loop.trans <| (evLoop_keep (body := evC T (env k) k scan_All.u3.c) (keep := [0, 4, 5]) (ρ := (frameL [(0, .str x0), (4, .slice x1), (5, .int .i64 x2)])) (ρ' := (frameL [(0, .str x0), (4, .slice x1), (5, .int .i64 x2)])) (by kernel_rfl) k K).trans (scan_All.u4.okl k K k x0 x1 x2)
theorem scan_All.u5.ok (k : Nat) (x0 : List UInt8) (x1 : Sl) (x2 : Int) (K : Ex → Frame → M α) :
    evC T (env k) k scan_All.u5.c (frameL [(0, .str x0), (4, .slice x1), (5, .int .i64 x2)]) K =
      scan_All.u5.f k x0 x1 x2 (fun y0 y1 => K .normal (frameL [(0, .str y0), (4, .slice y1)])) (fun y0 y1 => K .ret (frameL [(2, .slice y0), (3, .iface 56 (.ptr (some y1)))])) :=
  (evC_block.trans (scan_All.u4.ok k x0 x1 x2 (blockK 0 K))).trans (by kernel_rfl)
theorem scan_All.u6.ok (k : Nat) (x0 : List UInt8) (x1 : Sl) (K : Ex → Frame → M α) :
    evC T (env k) k scan_All.u6.c (frameL [(0, .str x0), (4, .slice x1)]) K =
      scan_All.u6.f k x0 x1 (fun y0 y1 => K .normal (frameL [(0, .str y0), (4, .slice y1)])) (fun y0 y1 => K .ret (frameL [(2, .slice y0), (3, .iface 56 (.ptr (some y1)))])) :=
  (scan_All.u2.ok k x0 x1 scan_All.u5.c K).trans
    (congrArg (fun z => scan_All.u2.f k x0 x1 z) (funext fun y0 => (funext fun y1 => (funext fun y2 => scan_All.u5.ok k y0 y1 y2 K))))
theorem scan_All.u7.ok (k : Nat) (x0 : List UInt8) (x1 : Sl) (K : Ex → Frame → M α) :
    evC T (env k) k scan_All.u7.c (frameL [(0, .str x0), (4, .slice x1)]) K =
      scan_All.u7.f k x0 x1 (fun y0 => K .ret (frameL [(2, .slice y0), (3, .nilIface)])) := by kernel_rfl
theorem scan_All.u8.ok (k : Nat) (x0 : List UInt8) (x1 : Sl) (K : Ex → Frame → M α) :
    evC T (env k) k scan_All.u8.c (frameL [(0, .str x0), (4, .slice x1)]) K =
      scan_All.u8.f k x0 x1 (fun y0 y1 => K .ret (frameL [(2, .slice y0), (3, y1)])) :=
  by
    have h := scan_All.u6.ok k x0 x1 (seqK (fun ρ => evC T (env k) k scan_All.u7.c ρ K) K)
    simp only [seqK_normal, seqK_exit, seqK_ret, seqK_pan, scan_All.u7.ok] at h
    exact evC_seq_of h
theorem scan_All.u9.ok (k : Nat) (x0 : List UInt8) (K : Ex → Frame → M α) :
    evC T (env k) k scan_All.u9.c (frameL [(0, .str x0)]) K =
      scan_All.u9.f k x0 (fun y0 y1 => K .ret (frameL [(2, .slice y0), (3, y1)])) :=
  (scan_All.u1.ok k x0 scan_All.u8.c K).trans
    (congrArg (fun z => scan_All.u1.f k x0 z (fun y0 y1 => K .ret (frameL [(2, .slice y0), (3, .iface 56 (.ptr (some y1)))]))) (funext fun y0 => (funext fun y1 => scan_All.u8.ok k y0 y1 K)))
theorem scan_All.ok (k : Nat) (x0 : List UInt8) (κ : Res → M α) :
    evF T (env k) k scan_All.c scan_All.res [.str x0] κ = scan_All.f (k + 1) x0 (fun o0 o1 => κ (.ret (.tuple [.slice o0, o1]))) :=
  (scan_All.u9.ok k x0 (retK T scan_All.res κ)).trans (by kernel_rfl)
theorem scan_All.code : scan_All.c.code = bodyOf Tryd.f18 := by kernel_rfl
noncomputable def syntax_Parse_c2.c : IC := syntax_Parse_c2.u1.c
noncomputable def syntax_Parse_c2.res : List ResultVar := [(.tmp 2)]
theorem syntax_Parse_c2.u1.ok (k : Nat) (x0 : Int) (x1 : Int) (x2 : List UInt8) (x3 : Int) (K : Ex → Frame → M α) :
    evC T (env k) k syntax_Parse_c2.u1.c (frameL [(0, .agg [.int .i64 x0, .int .i64 x1, .str x2, .int .i64 x3])]) K =
      syntax_Parse_c2.u1.f k x0 x1 x2 x3 (fun y0 => K .ret (frameL [(2, .bool y0)])) := by kernel_rfl
theorem syntax_Parse_c2.ok (k : Nat) (x0 : Int) (x1 : Int) (x2 : List UInt8) (x3 : Int) (κ : Res → M α) :
    evF T (env k) k syntax_Parse_c2.c syntax_Parse_c2.res [.agg [.int .i64 x0, .int .i64 x1, .str x2, .int .i64 x3]] κ = syntax_Parse_c2.f (k + 1) x0 x1 x2 x3 (fun o0 => κ (.ret (.bool o0))) :=
  (syntax_Parse_c2.u1.ok k x0 x1 x2 x3 (retK T syntax_Parse_c2.res κ)).trans (by kernel_rfl)
theorem syntax_Parse_c2.code : syntax_Parse_c2.c.code = bodyOf Tryd.f21 := by kernel_rfl
noncomputable def slices_IndexFunc_Token_Token_21.c : IC := slices_IndexFunc_Token_Token_21.u9.c
noncomputable def slices_IndexFunc_Token_Token_21.res : List ResultVar := [(.tmp 4)]
theorem slices_IndexFunc_Token_Token_21.u1.ok (k : Nat) (x0 : Sl) (R : IC) (K : Ex → Frame → M α) :
    evC T (env k) k (slices_IndexFunc_Token_Token_21.u1.c R) (frameL [(0, .slice x0), (1, .func 21 [] [])]) K =
      slices_IndexFunc_Token_Token_21.u1.f k x0 (fun y0 => evC T (env k) k R (frameL [(0, .slice y0), (1, .func 21 [] [])]) K) := by kernel_rfl
theorem slices_IndexFunc_Token_Token_21.u2.ok (k : Nat) (x0 : Sl) (R : IC) (K : Ex → Frame → M α) :
    evC T (env k) k (slices_IndexFunc_Token_Token_21.u2.c R) (frameL [(0, .slice x0), (1, .func 21 [] [])]) K =
      slices_IndexFunc_Token_Token_21.u2.f k x0 (fun y0 y1 y2 => evC T (env k) k R (frameL [(0, .slice y0), (1, .func 21 [] []), (7, .int .i64 y1), (8, .int .i64 y2)]) K) := by kernel_rfl
theorem slices_IndexFunc_Token_Token_21.u3.ok (k : Nat) (x0 : Sl) (x1 : Int) (x2 : Int) (K : Ex → Frame → M α) :
    evC T (env k) k slices_IndexFunc_Token_Token_21.u3.c (frameL [(0, .slice x0), (1, .func 21 [] []), (7, .int .i64 x1), (8, .int .i64 x2)]) K =
      slices_IndexFunc_Token_Token_21.u3.f k x0 x1 x2 (fun y0 y1 y2 => K .normal (frameL [(0, .slice y0), (1, .func 21 [] []), (7, .int .i64 y1), (8, .int .i64 y2)])) (fun y0 => K .ret (frameL [(4, .int .i64 y0)])) (K (.exit 0) (frameL [])) := by kernel_rfl
theorem slices_IndexFunc_Token_Token_21.u4.ls (k : Nat) (kr : Int → M α) (kx0 : M α) (j : Nat) (x0 : Sl) (x1 : Int) (x2 : Int) : slices_IndexFunc_Token_Token_21.u4.l k kr kx0 (j + 1) x0 x1 x2 =
  slices_IndexFunc_Token_Token_21.u3.f k x0 x1 x2 (fun y0 y1 y2 => slices_IndexFunc_Token_Token_21.u4.l k kr kx0 j y0 y1 y2) kr kx0 := rfl
theorem slices_IndexFunc_Token_Token_21.u4.okl (k : Nat) (K : Ex → Frame → M α) : ∀ (j : Nat) (x0 : Sl) (x1 : Int) (x2 : Int),
    evLoop (evC T (env k) k slices_IndexFunc_Token_Token_21.u3.c) [0, 1, 7, 8] j (frameL [(0, .slice x0), (1, .func 21 [] []), (7, .int .i64 x1), (8, .int .i64 x2)]) K = slices_IndexFunc_Token_Token_21.u4.l k (fun y0 => K .ret (frameL [(4, .int .i64 y0)])) (K (.exit 0) (frameL [])) j x0 x1 x2
  | 0, _, _, _ => rfl
  | j + 1, x0, x1, x2 => by
      have h := slices_IndexFunc_Token_Token_21.u3.ok k x0 x1 x2 (seqK (fun ρ => evLoop (evC T (env k) k slices_IndexFunc_Token_Token_21.u3.c) [0, 1, 7, 8] j ρ K) K)
      simp only [seqK_exit, seqK_ret, seqK_pan, seqK_normal, slices_IndexFunc_Token_Token_21.u4.okl k K j] at h
      exact (evLoop_step (by kernel_rfl) h).trans (slices_IndexFunc_Token_Token_21.u4.ls k (fun y0 => K .ret (frameL [(4, .int .i64 y0)])) (K (.exit 0) (frameL [])) j x0 x1 x2).symm
theorem slices_IndexFunc_Token_Token_21.u4.ok (k : Nat) (x0 : Sl) (x1 : Int) (x2 : Int) (K : Ex → Frame → M α) :
    evC T (env k) k slices_IndexFunc_Token_Token_21.u4.c (frameL [(0, .slice x0), (1, .func 21 [] []), (7, .int .i64 x1), (8, .int .i64 x2)]) K =
      slices_IndexFunc_Token_Token_21.u4.f k x0 x1 x2 (fun y0 => K .ret (frameL [(4, .int .i64 y0)])) (K (.exit 0) (frameL [])) :=
  evC_loop.trans <| (evLoop_keep (body := evC T (env k) k slices_IndexFunc_Token_Token_21.u3.c) (keep := [0, 1, 7, 8]) (ρ := (frameL [(0, .slice x0), (1, .func 21 [] []), (7, .int .i64 x1), (8, .int .i64 x2)])) (ρ' := (frameL [(0, .slice x0), (1, .func 21 [] []), (7, .int .i64 x1), (8, .int .i64 x2)])) (by kernel_rfl) k K).trans (slices_IndexFunc_Token_Token_21.u4.okl k K k x0 x1 x2)
theorem slices_IndexFunc_Token_Token_21.u5.ok (k : Nat) (x0 : Sl) (x1 : Int) (x2 : Int) (K : Ex → Frame → M α) :
    evC T (env k) k slices_IndexFunc_Token_Token_21.u5.c (frameL [(0, .slice x0), (1, .func 21 [] []), (7, .int .i64 x1), (8, .int .i64 x2)]) K =
      slices_IndexFunc_Token_Token_21.u5.f k x0 x1 x2 (K .normal (frameL [])) (fun y0 => K .ret (frameL [(4, .int .i64 y0)])) :=
  (evC_block.trans (slices_IndexFunc_Token_Token_21.u4.ok k x0 x1 x2 (blockK 0 K))).trans (by kernel_rfl)
theorem slices_IndexFunc_Token_Token_21.u6.ok (k : Nat) (x0 : Sl) (K : Ex → Frame → M α) :
    evC T (env k) k slices_IndexFunc_Token_Token_21.u6.c (frameL [(0, .slice x0), (1, .func 21 [] [])]) K =
      slices_IndexFunc_Token_Token_21.u6.f k x0 (K .normal (frameL [])) (fun y0 => K .ret (frameL [(4, .int .i64 y0)])) :=
  (slices_IndexFunc_Token_Token_21.u2.ok k x0 slices_IndexFunc_Token_Token_21.u5.c K).trans
    (congrArg (fun z => slices_IndexFunc_Token_Token_21.u2.f k x0 z) (funext fun y0 => (funext fun y1 => (funext fun y2 => slices_IndexFunc_Token_Token_21.u5.ok k y0 y1 y2 K))))
theorem slices_IndexFunc_Token_Token_21.u7.ok (k : Nat) (K : Ex → Frame → M α) :
    evC T (env k) k slices_IndexFunc_Token_Token_21.u7.c (frameL []) K =
      slices_IndexFunc_Token_Token_21.u7.f k (fun y0 => K .ret (frameL [(4, .int .i64 y0)])) := by kernel_rfl
theorem slices_IndexFunc_Token_Token_21.u8.ok (k : Nat) (x0 : Sl) (K : Ex → Frame → M α) :
    evC T (env k) k slices_IndexFunc_Token_Token_21.u8.c (frameL [(0, .slice x0), (1, .func 21 [] [])]) K =
      slices_IndexFunc_Token_Token_21.u8.f k x0 (fun y0 => K .ret (frameL [(4, .int .i64 y0)])) :=
  by
    have h := slices_IndexFunc_Token_Token_21.u6.ok k x0 (seqK (fun ρ => evC T (env k) k slices_IndexFunc_Token_Token_21.u7.c ρ K) K)
    simp only [seqK_normal, seqK_exit, seqK_ret, seqK_pan, slices_IndexFunc_Token_Token_21.u7.ok] at h
    exact evC_seq_of h
theorem slices_IndexFunc_Token_Token_21.u9.ok (k : Nat) (x0 : Sl) (K : Ex → Frame → M α) :
    evC T (env k) k slices_IndexFunc_Token_Token_21.u9.c (frameL [(0, .slice x0), (1, .func 21 [] [])]) K =
      slices_IndexFunc_Token_Token_21.u9.f k x0 (fun y0 => K .ret (frameL [(4, .int .i64 y0)])) :=
  (slices_IndexFunc_Token_Token_21.u1.ok k x0 slices_IndexFunc_Token_Token_21.u8.c K).trans
    (congrArg (fun z => slices_IndexFunc_Token_Token_21.u1.f k x0 z) (funext fun y0 => slices_IndexFunc_Token_Token_21.u8.ok k y0 K))
theorem slices_IndexFunc_Token_Token_21.ok (k : Nat) (x0 : Sl) (κ : Res → M α) :
    evF T (env k) k slices_IndexFunc_Token_Token_21.c slices_IndexFunc_Token_Token_21.res [.slice x0, .func 21 [] []] κ = slices_IndexFunc_Token_Token_21.f (k + 1) x0 (fun o0 => κ (.ret (.int .i64 o0))) :=
  (slices_IndexFunc_Token_Token_21.u9.ok k x0 (retK T slices_IndexFunc_Token_Token_21.res κ)).trans (by kernel_rfl)
theorem slices_IndexFunc_Token_Token_21.code : slices_IndexFunc_Token_Token_21.c.code = bodyOf Tryd.f32 := by kernel_rfl
noncomputable def slices_DeleteFunc_Token_Token_21.c : IC := slices_DeleteFunc_Token_Token_21.u9.c
noncomputable def slices_DeleteFunc_Token_Token_21.res : List ResultVar := [(.tmp 4)]
theorem slices_DeleteFunc_Token_Token_21.u1.ok (k : Nat) (x0 : Sl) (R : IC) (K : Ex → Frame → M α) :
    evC T (env k) k (slices_DeleteFunc_Token_Token_21.u1.c R) (frameL [(0, .slice x0), (1, .func 21 [] [])]) K =
      slices_DeleteFunc_Token_Token_21.u1.f k x0 (fun y0 y1 => evC T (env k) k R (frameL [(0, .slice y0), (1, .func 21 [] []), (5, .int .i64 y1)]) K) (fun y0 => K .ret (frameL [(4, .slice y0)])) := by kernel_rfl
theorem slices_DeleteFunc_Token_Token_21.u2.ok (k : Nat) (x0 : Sl) (x1 : Int) (R : IC) (K : Ex → Frame → M α) :
    evC T (env k) k (slices_DeleteFunc_Token_Token_21.u2.c R) (frameL [(0, .slice x0), (1, .func 21 [] []), (5, .int .i64 x1)]) K =
      slices_DeleteFunc_Token_Token_21.u2.f k x0 x1 (fun y0 y1 y2 => evC T (env k) k R (frameL [(0, .slice y0), (1, .func 21 [] []), (5, .int .i64 y1), (6, .int .i64 y2)]) K) := by kernel_rfl
theorem slices_DeleteFunc_Token_Token_21.u3.ok (k : Nat) (x0 : Sl) (x1 : Int) (x2 : Int) (K : Ex → Frame → M α) :
    evC T (env k) k slices_DeleteFunc_Token_Token_21.u3.c (frameL [(0, .slice x0), (1, .func 21 [] []), (5, .int .i64 x1), (6, .int .i64 x2)]) K =
      slices_DeleteFunc_Token_Token_21.u3.f k x0 x1 x2 (fun y0 y1 y2 => K .normal (frameL [(0, .slice y0), (1, .func 21 [] []), (5, .int .i64 y1), (6, .int .i64 y2)])) (fun y0 y1 => K (.exit 0) (frameL [(0, .slice y0), (5, .int .i64 y1)])) := by kernel_rfl
theorem slices_DeleteFunc_Token_Token_21.u4.ls (k : Nat) (kx0 : Sl → Int → M α) (j : Nat) (x0 : Sl) (x1 : Int) (x2 : Int) : slices_DeleteFunc_Token_Token_21.u4.l k kx0 (j + 1) x0 x1 x2 =
  slices_DeleteFunc_Token_Token_21.u3.f k x0 x1 x2 (fun y0 y1 y2 => slices_DeleteFunc_Token_Token_21.u4.l k kx0 j y0 y1 y2) kx0 := rfl
theorem slices_DeleteFunc_Token_Token_21.u4.okl (k : Nat) (K : Ex → Frame → M α) : ∀ (j : Nat) (x0 : Sl) (x1 : Int) (x2 : Int),
    evLoop (evC T (env k) k slices_DeleteFunc_Token_Token_21.u3.c) [0, 1, 5, 6] j (frameL [(0, .slice x0), (1, .func 21 [] []), (5, .int .i64 x1), (6, .int .i64 x2)]) K = slices_DeleteFunc_Token_Token_21.u4.l k (fun y0 y1 => K (.exit 0) (frameL [(0, .slice y0), (5, .int .i64 y1)])) j x0 x1 x2
  | 0, _, _, _ => rfl
  | j + 1, x0, x1, x2 => by
      have h := slices_DeleteFunc_Token_Token_21.u3.ok k x0 x1 x2 (seqK (fun ρ => evLoop (evC T (env k) k slices_DeleteFunc_Token_Token_21.u3.c) [0, 1, 5, 6] j ρ K) K)
      simp only [seqK_exit, seqK_ret, seqK_pan, seqK_normal, slices_DeleteFunc_Token_Token_21.u4.okl k K j] at h
      exact (evLoop_step (by kernel_rfl) h).trans (slices_DeleteFunc_Token_Token_21.u4.ls k (fun y0 y1 => K (.exit 0) (frameL [(0, .slice y0), (5, .int .i64 y1)])) j x0 x1 x2).symm
theorem slices_DeleteFunc_Token_Token_21.u4.ok (k : Nat) (x0 : Sl) (x1 : Int) (x2 : Int) (K : Ex → Frame → M α) :
    evC T (env k) k slices_DeleteFunc_Token_Token_21.u4.c (frameL [(0, .slice x0), (1, .func 21 [] []), (5, .int .i64 x1), (6, .int .i64 x2)]) K =
      slices_DeleteFunc_Token_Token_21.u4.f k x0 x1 x2 (fun y0 y1 => K (.exit 0) (frameL [(0, .slice y0), (5, .int .i64 y1)])) :=
  evC_loop.trans <| (evLoop_keep (body := evC T (env k) k slices_DeleteFunc_Token_Token_21.u3.c) (keep := [0, 1, 5, 6]) (ρ := (frameL [(0, .slice x0), (1, .func 21 [] []), (5, .int .i64 x1), (6, .int .i64 x2)])) (ρ' := (frameL [(0, .slice x0), (1, .func 21 [] []), (5, .int .i64 x1), (6, .int .i64 x2)])) (by kernel_rfl) k K).trans (slices_DeleteFunc_Token_Token_21.u4.okl k K k x0 x1 x2)
theorem slices_DeleteFunc_Token_Token_21.u5.ok (k : Nat) (x0 : Sl) (x1 : Int) (x2 : Int) (K : Ex → Frame → M α) :
    evC T (env k) k slices_DeleteFunc_Token_Token_21.u5.c (frameL [(0, .slice x0), (1, .func 21 [] []), (5, .int .i64 x1), (6, .int .i64 x2)]) K =
      slices_DeleteFunc_Token_Token_21.u5.f k x0 x1 x2 (fun y0 y1 => K .normal (frameL [(0, .slice y0), (5, .int .i64 y1)])) :=
  (evC_block.trans (slices_DeleteFunc_Token_Token_21.u4.ok k x0 x1 x2 (blockK 0 K))).trans (by kernel_rfl)
theorem slices_DeleteFunc_Token_Token_21.u6.ok (k : Nat) (x0 : Sl) (x1 : Int) (K : Ex → Frame → M α) :
    evC T (env k) k slices_DeleteFunc_Token_Token_21.u6.c (frameL [(0, .slice x0), (1, .func 21 [] []), (5, .int .i64 x1)]) K =
      slices_DeleteFunc_Token_Token_21.u6.f k x0 x1 (fun y0 y1 => K .normal (frameL [(0, .slice y0), (5, .int .i64 y1)])) :=
  (slices_DeleteFunc_Token_Token_21.u2.ok k x0 x1 slices_DeleteFunc_Token_Token_21.u5.c K).trans
    (congrArg (fun z => slices_DeleteFunc_Token_Token_21.u2.f k x0 x1 z) (funext fun y0 => (funext fun y1 => (funext fun y2 => slices_DeleteFunc_Token_Token_21.u5.ok k y0 y1 y2 K))))
theorem slices_DeleteFunc_Token_Token_21.u7.ok (k : Nat) (x0 : Sl) (x1 : Int) (K : Ex → Frame → M α) :
    evC T (env k) k slices_DeleteFunc_Token_Token_21.u7.c (frameL [(0, .slice x0), (5, .int .i64 x1)]) K =
      slices_DeleteFunc_Token_Token_21.u7.f k x0 x1 (fun y0 => K .ret (frameL [(4, .slice y0)])) := by kernel_rfl
theorem slices_DeleteFunc_Token_Token_21.u8.ok (k : Nat) (x0 : Sl) (x1 : Int) (K : Ex → Frame → M α) :
    evC T (env k) k slices_DeleteFunc_Token_Token_21.u8.c (frameL [(0, .slice x0), (1, .func 21 [] []), (5, .int .i64 x1)]) K =
      slices_DeleteFunc_Token_Token_21.u8.f k x0 x1 (fun y0 => K .ret (frameL [(4, .slice y0)])) :=
  by
    have h := slices_DeleteFunc_Token_Token_21.u6.ok k x0 x1 (seqK (fun ρ => evC T (env k) k slices_DeleteFunc_Token_Token_21.u7.c ρ K) K)
    simp only [seqK_normal, seqK_exit, seqK_ret, seqK_pan, slices_DeleteFunc_Token_Token_21.u7.ok] at h
    exact evC_seq_of h
theorem slices_DeleteFunc_Token_Token_21.u9.ok (k : Nat) (x0 : Sl) (K : Ex → Frame → M α) :
    evC T (env k) k slices_DeleteFunc_Token_Token_21.u9.c (frameL [(0, .slice x0), (1, .func 21 [] [])]) K =
      slices_DeleteFunc_Token_Token_21.u9.f k x0 (fun y0 => K .ret (frameL [(4, .slice y0)])) :=
  (slices_DeleteFunc_Token_Token_21.u1.ok k x0 slices_DeleteFunc_Token_Token_21.u8.c K).trans
    (congrArg (fun z => slices_DeleteFunc_Token_Token_21.u1.f k x0 z (fun y0 => K .ret (frameL [(4, .slice y0)]))) (funext fun y0 => (funext fun y1 => slices_DeleteFunc_Token_Token_21.u8.ok k y0 y1 K)))
theorem slices_DeleteFunc_Token_Token_21.ok (k : Nat) (x0 : Sl) (κ : Res → M α) :
    evF T (env k) k slices_DeleteFunc_Token_Token_21.c slices_DeleteFunc_Token_Token_21.res [.slice x0, .func 21 [] []] κ = slices_DeleteFunc_Token_Token_21.f (k + 1) x0 (fun o0 => κ (.ret (.slice o0))) :=
  (slices_DeleteFunc_Token_Token_21.u9.ok k x0 (retK T slices_DeleteFunc_Token_Token_21.res κ)).trans (by kernel_rfl)
theorem slices_DeleteFunc_Token_Token_21.code : slices_DeleteFunc_Token_Token_21.c.code = bodyOf Tryd.f20 := by kernel_rfl
noncomputable def spis.c : IC := spis.u1.c
noncomputable def spis.res : List ResultVar := [(.tmp 4)]
theorem spis.u1.ok (k : Nat) (x0 : Ad) (x1 : List UInt8) (K : Ex → Frame → M α) :
    evC T (env k) k spis.u1.c (frameL [(0, .ptr (some x0)), (1, .str x1)]) K =
      spis.u1.f k x0 x1 (fun y0 => K .ret (frameL [(4, .bool y0)])) := by kernel_rfl
theorem spis.ok (k : Nat) (x0 : Ad) (x1 : List UInt8) (κ : Res → M α) :
    evF T (env k) k spis.c spis.res [.ptr (some x0), .str x1] κ = spis.f (k + 1) x0 x1 (fun o0 => κ (.ret (.bool o0))) :=
  (spis.u1.ok k x0 x1 (retK T spis.res κ)).trans (by kernel_rfl)
theorem spis.code : spis.c.code = bodyOf Tryd.f47 := by kernel_rfl
noncomputable def spnext.c : IC := spnext.u1.c
noncomputable def spnext.res : List ResultVar := [(.cell 2 60)]
theorem spnext.u1.ok (k : Nat) (x0 : Ad) (K : Ex → Frame → M α) :
    evC T (env k) k spnext.u1.c (frameL [(0, .ptr (some x0))]) K =
      spnext.u1.f k x0 (fun y0 => K .ret (frameL [(2, .ptr (some y0))])) := by kernel_rfl
theorem spnext.ok (k : Nat) (x0 : Ad) (κ : Res → M α) :
    evF T (env k) k spnext.c spnext.res [.ptr (some x0)] κ = spnext.f (k + 1) x0 (fun o0 o1 o2 o3 => κ (.ret (.agg [.int .i64 o0, .int .i64 o1, .str o2, .int .i64 o3]))) :=
  (spnext.u1.ok k x0 (retK T spnext.res κ)).trans (by kernel_rfl)
theorem spnext.code : spnext.c.code = bodyOf Tryd.f56 := by kernel_rfl
noncomputable def spmakes.c : IC := spmakes.u1.c
noncomputable def spmakes.res : List ResultVar := [(.cell 2 60)]
theorem spmakes.u1.ok (k : Nat) (x0 : Ad) (K : Ex → Frame → M α) :
    evC T (env k) k spmakes.u1.c (frameL [(0, .ptr (some x0))]) K =
      spmakes.u1.f k x0 (fun y0 => K .ret (frameL [(2, .ptr (some y0))])) (fun v => K (.pan v) (frameL [])) := by kernel_rfl
theorem spmakes.ok (k : Nat) (x0 : Ad) (κ : Res → M α) :
    evF T (env k) k spmakes.c spmakes.res [.ptr (some x0)] κ = spmakes.f (k + 1) x0 (fun v => κ (.pan v)) (fun o0 o1 o2 o3 => κ (.ret (.agg [.int .i64 o0, .int .i64 o1, .str o2, .int .i64 o3]))) :=
  (spmakes.u1.ok k x0 (retK T spmakes.res κ)).trans (by kernel_rfl)
theorem spmakes.code : spmakes.c.code = bodyOf Tryd.f48 := by kernel_rfl
noncomputable def spnode.c : IC := spnode.u1.c
noncomputable def spnode.res : List ResultVar := [(.tmp 4)]
theorem spnode.u1.ok (k : Nat) (x0 : Ad) (x1 : Int) (x2 : Int) (x3 : Int) (x4 : List UInt8) (x5 : Int) (K : Ex → Frame → M α) :
    evC T (env k) k spnode.u1.c (frameL [(0, .ptr (some x0)), (1, .agg [.int .i64 x1, .int .i64 x2, .int .i64 x3, .str x4, .int .i64 x5])]) K =
      spnode.u1.f k x0 x1 x2 x3 x4 x5 (fun y0 => K .ret (frameL [(4, .int .i64 y0)])) := by kernel_rfl
theorem spnode.ok (k : Nat) (x0 : Ad) (x1 : Int) (x2 : Int) (x3 : Int) (x4 : List UInt8) (x5 : Int) (κ : Res → M α) :
    evF T (env k) k spnode.c spnode.res [.ptr (some x0), .agg [.int .i64 x1, .int .i64 x2, .int .i64 x3, .str x4, .int .i64 x5]] κ = spnode.f (k + 1) x0 x1 x2 x3 x4 x5 (fun o0 => κ (.ret (.int .i64 o0))) :=
  (spnode.u1.ok k x0 x1 x2 x3 x4 x5 (retK T spnode.res κ)).trans (by kernel_rfl)
theorem spnode.code : spnode.c.code = bodyOf Tryd.f49 := by kernel_rfl
noncomputable def spwrong.c : IC := spwrong.u1.c
noncomputable def spwrong.res : List ResultVar := []
theorem spwrong.u1.ok (k : Nat) (x0 : Ad) (K : Ex → Frame → M α) :
    evC T (env k) k spwrong.u1.c (frameL [(0, .ptr (some x0))]) K =
      spwrong.u1.f k x0 (fun v => K (.pan v) (frameL [])) := by kernel_rfl
theorem spwrong.ok (k : Nat) (x0 : Ad) (κ : Res → M α) :
    evF T (env k) k spwrong.c spwrong.res [.ptr (some x0)] κ = spwrong.f (k + 1) x0 (fun v => κ (.pan v)) (κ (.ret (.tuple []))) :=
  (spwrong.u1.ok k x0 (retK T spwrong.res κ)).trans (by kernel_rfl)
theorem spwrong.code : spwrong.c.code = bodyOf Tryd.f23 := by kernel_rfl
noncomputable def syntax_word.c : IC := syntax_word.u1.c
noncomputable def syntax_word.res : List ResultVar := [(.tmp 2)]
theorem syntax_word.u1.ok (k : Nat) (x0 : List UInt8) (K : Ex → Frame → M α) :
    evC T (env k) k syntax_word.u1.c (frameL [(0, .str x0)]) K =
      syntax_word.u1.f k x0 (fun y0 => K .ret (frameL [(2, .bool y0)])) := by kernel_rfl
theorem syntax_word.ok (k : Nat) (x0 : List UInt8) (κ : Res → M α) :
    evF T (env k) k syntax_word.c syntax_word.res [.str x0] κ = syntax_word.f (k + 1) x0 (fun o0 => κ (.ret (.bool o0))) :=
  (syntax_word.u1.ok k x0 (retK T syntax_word.res κ)).trans (by kernel_rfl)
theorem syntax_word.code : syntax_word.c.code = bodyOf Tryd.f42 := by kernel_rfl
noncomputable def spneed.c : IC := spneed.u1.c
noncomputable def spneed.res : List ResultVar := []
theorem spneed.u1.ok (k : Nat) (x0 : Ad) (x1 : List UInt8) (K : Ex → Frame → M α) :
    evC T (env k) k spneed.u1.c (frameL [(0, .ptr (some x0)), (1, .str x1)]) K =
      spneed.u1.f k x0 x1 (K .normal (frameL [])) (fun v => K (.pan v) (frameL [])) := by kernel_rfl
theorem spneed.ok (k : Nat) (x0 : Ad) (x1 : List UInt8) (κ : Res → M α) :
    evF T (env k) k spneed.c spneed.res [.ptr (some x0), .str x1] κ = spneed.f (k + 1) x0 x1 (fun v => κ (.pan v)) (κ (.ret (.tuple []))) :=
  (spneed.u1.ok k x0 x1 (retK T spneed.res κ)).trans (by kernel_rfl)
theorem spneed.code : spneed.c.code = bodyOf Tryd.f58 := by kernel_rfl
noncomputable def spstep.c : IC := spstep.u1.c
noncomputable def spstep.res : List ResultVar := [(.tmp 4)]
theorem spstep.u1.ok (k : Nat) (x0 : Ad) (x1 : List UInt8) (K : Ex → Frame → M α) :
    evC T (env k) k spstep.u1.c (frameL [(0, .ptr (some x0)), (1, .str x1)]) K =
      spstep.u1.f k x0 x1 (fun y0 => K .ret (frameL [(4, .str y0)])) (fun v => K (.pan v) (frameL [])) := by kernel_rfl
theorem spstep.ok (k : Nat) (x0 : Ad) (x1 : List UInt8) (κ : Res → M α) :
    evF T (env k) k spstep.c spstep.res [.ptr (some x0), .str x1] κ = spstep.f (k + 1) x0 x1 (fun v => κ (.pan v)) (fun o0 => κ (.ret (.str o0))) :=
  (spstep.u1.ok k x0 x1 (retK T spstep.res κ)).trans (by kernel_rfl)
theorem spstep.code : spstep.c.code = bodyOf Tryd.f57 := by kernel_rfl
noncomputable def spformula.c : IC := spformula.u1.c
noncomputable def spformula.res : List ResultVar := [(.tmp 2)]
theorem spformula.u1.ok (k : Nat) (x0 : Ad) (K : Ex → Frame → M α) :
    evC T (env k) k spformula.u1.c (frameL [(0, .ptr (some x0))]) K =
      spformula.u1.f k (sprow.f k) x0 (fun y0 => K .ret (frameL [(2, .int .i64 y0)])) (fun v => K (.pan v) (frameL [])) := by kernel_rfl
theorem spformula.ok (k : Nat) (x0 : Ad) (κ : Res → M α) :
    evF T (env k) k spformula.c spformula.res [.ptr (some x0)] κ = spformula.f (k + 1) x0 (fun v => κ (.pan v)) (fun o0 => κ (.ret (.int .i64 o0))) :=
  (spformula.u1.ok k x0 (retK T spformula.res κ)).trans (by kernel_rfl)
theorem spformula.code : spformula.c.code = bodyOf Tryd.f22 := by kernel_rfl
noncomputable def sprow.c : IC := sprow.u7.c
noncomputable def sprow.res : List ResultVar := [(.tmp 8)]
theorem sprow.u1.ok (k : Nat) (x0 : Ad) (x1 : List UInt8) (x2 : Int) (x3 : V) (R : IC) (K : Ex → Frame → M α) :
    evC T (env k) k (sprow.u1.c R) (frameL [(0, .ptr (some x0)), (1, .str x1), (2, .int .i64 x2), (3, x3)]) K =
      sprow.u1.f k (spand.f k) (spunary.f k) x0 x1 x2 x3 (fun y0 y1 y2 y3 y4 => evC T (env k) k R (frameL [(0, .ptr (some y0)), (1, .str y1), (2, .int .i64 y2), (3, y3), (9, .int .i64 y4)]) K) (fun v => K (.pan v) (frameL [])) := by kernel_rfl
theorem sprow.u2.ok (k : Nat) (x0 : Ad) (x1 : List UInt8) (x2 : Int) (x3 : V) (x4 : Int) (K : Ex → Frame → M α) :
    evC T (env k) k sprow.u2.c (frameL [(0, .ptr (some x0)), (1, .str x1), (2, .int .i64 x2), (3, x3), (9, .int .i64 x4)]) K =
      sprow.u2.f k (spand.f k) (spunary.f k) x0 x1 x2 x3 x4 (fun y0 y1 y2 y3 y4 => K .normal (frameL [(0, .ptr (some y0)), (1, .str y1), (2, .int .i64 y2), (3, y3), (9, .int .i64 y4)])) (fun y0 => K (.exit 0) (frameL [(9, .int .i64 y0)])) (fun v => K (.pan v) (frameL [])) := by kernel_rfl
theorem sprow.u3.ls (k : Nat) (rr34 : Ad → (V → M α) → (Int → M α) → M α) (rr50 : Ad → (V → M α) → (Int → M α) → M α) (kx0 : Int → M α) (kp : V → M α) (j : Nat) (x0 : Ad) (x1 : List UInt8) (x2 : Int) (x3 : V) (x4 : Int) : sprow.u3.l k rr34 rr50 kx0 kp (j + 1) x0 x1 x2 x3 x4 =
  sprow.u2.f k rr34 rr50 x0 x1 x2 x3 x4 (fun y0 y1 y2 y3 y4 => sprow.u3.l k rr34 rr50 kx0 kp j y0 y1 y2 y3 y4) kx0 kp := rfl
theorem sprow.u3.okl (k : Nat) (K : Ex → Frame → M α) : ∀ (j : Nat) (x0 : Ad) (x1 : List UInt8) (x2 : Int) (x3 : V) (x4 : Int),
    evLoop (evC T (env k) k sprow.u2.c) [0, 1, 2, 3, 9] j (frameL [(0, .ptr (some x0)), (1, .str x1), (2, .int .i64 x2), (3, x3), (9, .int .i64 x4)]) K = sprow.u3.l k (spand.f k) (spunary.f k) (fun y0 => K (.exit 0) (frameL [(9, .int .i64 y0)])) (fun v => K (.pan v) (frameL [])) j x0 x1 x2 x3 x4
  | 0, _, _, _, _, _ => rfl
  | j + 1, x0, x1, x2, x3, x4 => by
      have h := sprow.u2.ok k x0 x1 x2 x3 x4 (seqK (fun ρ => evLoop (evC T (env k) k sprow.u2.c) [0, 1, 2, 3, 9] j ρ K) K)
      simp only [seqK_exit, seqK_ret, seqK_pan, seqK_normal, sprow.u3.okl k K j] at h
      exact (evLoop_step (by kernel_rfl) h).trans (sprow.u3.ls k (spand.f k) (spunary.f k) (fun y0 => K (.exit 0) (frameL [(9, .int .i64 y0)])) (fun v => K (.pan v) (frameL [])) j x0 x1 x2 x3 x4).symm
theorem sprow.u3.ok (k : Nat) (x0 : Ad) (x1 : List UInt8) (x2 : Int) (x3 : V) (x4 : Int) (K : Ex → Frame → M α) :
    evC T (env k) k sprow.u3.c (frameL [(0, .ptr (some x0)), (1, .str x1), (2, .int .i64 x2), (3, x3), (9, .int .i64 x4)]) K =
      sprow.u3.f k (spand.f k) (spunary.f k) x0 x1 x2 x3 x4 (fun y0 => K (.exit 0) (frameL [(9, .int .i64 y0)])) (fun v => K (.pan v) (frameL [])) :=
  evC_loop.trans <| (evLoop_keep (body := evC T (env k) k sprow.u2.c) (keep := [0, 1, 2, 3, 9]) (ρ := (frameL [(0, .ptr (some x0)), (1, .str x1), (2, .int .i64 x2), (3, x3), (9, .int .i64 x4)])) (ρ' := (frameL [(0, .ptr (some x0)), (1, .str x1), (2, .int .i64 x2), (3, x3), (9, .int .i64 x4)])) (by kernel_rfl) k K).trans (sprow.u3.okl k K k x0 x1 x2 x3 x4)
theorem sprow.u4.ok (k : Nat) (x0 : Ad) (x1 : List UInt8) (x2 : Int) (x3 : V) (x4 : Int) (K : Ex → Frame → M α) :
    evC T (env k) k sprow.u4.c (frameL [(0, .ptr (some x0)), (1, .str x1), (2, .int .i64 x2), (3, x3), (9, .int .i64 x4)]) K =
      sprow.u4.f k (spand.f k) (spunary.f k) x0 x1 x2 x3 x4 (fun y0 => K .normal (frameL [(9, .int .i64 y0)])) (fun v => K (.pan v) (frameL [])) :=
  (evC_block.trans (sprow.u3.ok k x0 x1 x2 x3 x4 (blockK 0 K))).trans (by kernel_rfl)
theorem sprow.u5.ok (k : Nat) (x0 : Int) (K : Ex → Frame → M α) :
    evC T (env k) k sprow.u5.c (frameL [(9, .int .i64 x0)]) K =
      sprow.u5.f k x0 (fun y0 => K .ret (frameL [(8, .int .i64 y0)])) := by kernel_rfl
theorem sprow.u6.ok (k : Nat) (x0 : Ad) (x1 : List UInt8) (x2 : Int) (x3 : V) (x4 : Int) (K : Ex → Frame → M α) :
    evC T (env k) k sprow.u6.c (frameL [(0, .ptr (some x0)), (1, .str x1), (2, .int .i64 x2), (3, x3), (9, .int .i64 x4)]) K =
      sprow.u6.f k (spand.f k) (spunary.f k) x0 x1 x2 x3 x4 (fun y0 => K .ret (frameL [(8, .int .i64 y0)])) (fun v => K (.pan v) (frameL [])) :=
  by
    have h := sprow.u4.ok k x0 x1 x2 x3 x4 (seqK (fun ρ => evC T (env k) k sprow.u5.c ρ K) K)
    simp only [seqK_normal, seqK_exit, seqK_ret, seqK_pan, sprow.u5.ok] at h
    exact evC_seq_of h
theorem sprow.u7.ok (k : Nat) (x0 : Ad) (x1 : List UInt8) (x2 : Int) (x3 : V) (K : Ex → Frame → M α) :
    evC T (env k) k sprow.u7.c (frameL [(0, .ptr (some x0)), (1, .str x1), (2, .int .i64 x2), (3, x3)]) K =
      sprow.u7.f k (spand.f k) (spunary.f k) x0 x1 x2 x3 (fun y0 => K .ret (frameL [(8, .int .i64 y0)])) (fun v => K (.pan v) (frameL [])) :=
  (sprow.u1.ok k x0 x1 x2 x3 sprow.u6.c K).trans
    (congrArg (fun z => sprow.u1.f k (spand.f k) (spunary.f k) x0 x1 x2 x3 z (fun v => K (.pan v) (frameL []))) (funext fun y0 => (funext fun y1 => (funext fun y2 => (funext fun y3 => (funext fun y4 => sprow.u6.ok k y0 y1 y2 y3 y4 K))))))
theorem sprow.ok (k : Nat) (x0 : Ad) (x1 : List UInt8) (x2 : Int) (x3 : V) (κ : Res → M α) :
    evF T (env k) k sprow.c sprow.res [.ptr (some x0), .str x1, .int .i64 x2, x3] κ = sprow.f (k + 1) x0 x1 x2 x3 (fun v => κ (.pan v)) (fun o0 => κ (.ret (.int .i64 o0))) :=
  (sprow.u7.ok k x0 x1 x2 x3 (retK T sprow.res κ)).trans (by kernel_rfl)
theorem sprow.code : sprow.c.code = bodyOf Tryd.f33 := by kernel_rfl
noncomputable def spand.c : IC := spand.u1.c
noncomputable def spand.res : List ResultVar := [(.tmp 2)]
theorem spand.u1.ok (k : Nat) (x0 : Ad) (K : Ex → Frame → M α) :
    evC T (env k) k spand.u1.c (frameL [(0, .ptr (some x0))]) K =
      spand.u1.f k (sprow.f k) x0 (fun y0 => K .ret (frameL [(2, .int .i64 y0)])) (fun v => K (.pan v) (frameL [])) := by kernel_rfl
theorem spand.ok (k : Nat) (x0 : Ad) (κ : Res → M α) :
    evF T (env k) k spand.c spand.res [.ptr (some x0)] κ = spand.f (k + 1) x0 (fun v => κ (.pan v)) (fun o0 => κ (.ret (.int .i64 o0))) :=
  (spand.u1.ok k x0 (retK T spand.res κ)).trans (by kernel_rfl)
theorem spand.code : spand.c.code = bodyOf Tryd.f34 := by kernel_rfl
noncomputable def spunary.c : IC := spunary.u18.c
noncomputable def spunary.res : List ResultVar := [(.tmp 2)]
theorem spunary.u1.ok (k : Nat) (x0 : Ad) (R : IC) (K : Ex → Frame → M α) :
    evC T (env k) k (spunary.u1.c R) (frameL [(0, .ptr (some x0))]) K =
      spunary.u1.f k x0 (fun y0 => evC T (env k) k R (frameL [(0, .ptr (some y0))]) K) := by kernel_rfl
theorem spunary.u2.ok (k : Nat) (x0 : Ad) (R : IC) (K : Ex → Frame → M α) :
    evC T (env k) k (spunary.u2.c R) (frameL [(0, .ptr (some x0))]) K =
      spunary.u2.f k x0 (fun y0 y1 => evC T (env k) k R (frameL [(0, .ptr (some y0)), (10, .bool y1)]) K) := by kernel_rfl
theorem spunary.u3.ok (k : Nat) (x0 : Ad) (x1 : Bool) (K : Ex → Frame → M α) :
    evC T (env k) k spunary.u3.c (frameL [(0, .ptr (some x0)), (10, .bool x1)]) K =
      spunary.u3.f k (spunary.f k) x0 x1 (fun y0 => K .ret (frameL [(2, .int .i64 y0)])) (fun v => K (.pan v) (frameL [])) := by kernel_rfl
theorem spunary.u4.ok (k : Nat) (x0 : Ad) (x1 : Bool) (R : IC) (K : Ex → Frame → M α) :
    evC T (env k) k (spunary.u4.c R) (frameL [(0, .ptr (some x0)), (10, .bool x1)]) K =
      spunary.u4.f k x0 x1 (fun y0 y1 => evC T (env k) k R (frameL [(0, .ptr (some y0)), (22, .bool y1)]) K) := by kernel_rfl
theorem spunary.u5.ok (k : Nat) (x0 : Ad) (x1 : Bool) (K : Ex → Frame → M α) :
    evC T (env k) k spunary.u5.c (frameL [(0, .ptr (some x0)), (22, .bool x1)]) K =
      spunary.u5.f k (spunary.f k) x0 x1 (fun y0 => K .ret (frameL [(2, .int .i64 y0)])) (fun v => K (.pan v) (frameL [])) := by kernel_rfl
theorem spunary.u6.ok (k : Nat) (x0 : Ad) (x1 : Bool) (R : IC) (K : Ex → Frame → M α) :
    evC T (env k) k (spunary.u6.c R) (frameL [(0, .ptr (some x0)), (22, .bool x1)]) K =
      spunary.u6.f k x0 x1 (fun y0 y1 => evC T (env k) k R (frameL [(0, .ptr (some y0)), (37, .bool y1)]) K) := by kernel_rfl
theorem spunary.u7.ok (k : Nat) (x0 : Ad) (x1 : Bool) (K : Ex → Frame → M α) :
    evC T (env k) k spunary.u7.c (frameL [(0, .ptr (some x0)), (37, .bool x1)]) K =
      spunary.u7.f k (spunary.f k) x0 x1 (fun y0 => K .ret (frameL [(2, .int .i64 y0)])) (fun v => K (.pan v) (frameL [])) := by kernel_rfl
theorem spunary.u8.ok (k : Nat) (x0 : Ad) (x1 : Bool) (K : Ex → Frame → M α) :
    evC T (env k) k spunary.u8.c (frameL [(0, .ptr (some x0)), (37, .bool x1)]) K =
      spunary.u8.f k (spformula.f k) (spword.f k) x0 x1 (fun y0 => K .normal (frameL [(0, .ptr (some y0))])) (fun y0 => K .ret (frameL [(2, .int .i64 y0)])) (fun v => K (.pan v) (frameL [])) := by kernel_rfl
theorem spunary.u9.ok (k : Nat) (x0 : Ad) (x1 : Bool) (K : Ex → Frame → M α) :
    evC T (env k) k spunary.u9.c (frameL [(0, .ptr (some x0)), (37, .bool x1)]) K =
      spunary.u9.f k (spunary.f k) (spformula.f k) (spword.f k) x0 x1 (fun y0 => K .normal (frameL [(0, .ptr (some y0))])) (fun y0 => K .ret (frameL [(2, .int .i64 y0)])) (fun v => K (.pan v) (frameL [])) :=
  evC_cond_run (g := x1) (by kernel_rfl) (spunary.u7.ok k x0 x1 K) (spunary.u8.ok k x0 x1 K)
theorem spunary.u10.ok (k : Nat) (x0 : Ad) (x1 : Bool) (K : Ex → Frame → M α) :
    evC T (env k) k spunary.u10.c (frameL [(0, .ptr (some x0)), (22, .bool x1)]) K =
      spunary.u10.f k (spunary.f k) (spformula.f k) (spword.f k) x0 x1 (fun y0 => K .normal (frameL [(0, .ptr (some y0))])) (fun y0 => K .ret (frameL [(2, .int .i64 y0)])) (fun v => K (.pan v) (frameL [])) :=
  (spunary.u6.ok k x0 x1 spunary.u9.c K).trans
    (congrArg (fun z => spunary.u6.f k x0 x1 z) (funext fun y0 => (funext fun y1 => spunary.u9.ok k y0 y1 K)))
theorem spunary.u11.ok (k : Nat) (x0 : Ad) (x1 : Bool) (K : Ex → Frame → M α) :
    evC T (env k) k spunary.u11.c (frameL [(0, .ptr (some x0)), (22, .bool x1)]) K =
      spunary.u11.f k (spunary.f k) (spformula.f k) (spword.f k) x0 x1 (fun y0 => K .normal (frameL [(0, .ptr (some y0))])) (fun y0 => K .ret (frameL [(2, .int .i64 y0)])) (fun v => K (.pan v) (frameL [])) :=
  evC_cond_run (g := x1) (by kernel_rfl) (spunary.u5.ok k x0 x1 K) (spunary.u10.ok k x0 x1 K)
theorem spunary.u12.ok (k : Nat) (x0 : Ad) (x1 : Bool) (K : Ex → Frame → M α) :
    evC T (env k) k spunary.u12.c (frameL [(0, .ptr (some x0)), (10, .bool x1)]) K =
      spunary.u12.f k (spunary.f k) (spformula.f k) (spword.f k) x0 x1 (fun y0 => K .normal (frameL [(0, .ptr (some y0))])) (fun y0 => K .ret (frameL [(2, .int .i64 y0)])) (fun v => K (.pan v) (frameL [])) :=
  (spunary.u4.ok k x0 x1 spunary.u11.c K).trans
    (congrArg (fun z => spunary.u4.f k x0 x1 z) (funext fun y0 => (funext fun y1 => spunary.u11.ok k y0 y1 K)))
theorem spunary.u13.ok (k : Nat) (x0 : Ad) (x1 : Bool) (K : Ex → Frame → M α) :
    evC T (env k) k spunary.u13.c (frameL [(0, .ptr (some x0)), (10, .bool x1)]) K =
      spunary.u13.f k (spunary.f k) (spformula.f k) (spword.f k) x0 x1 (fun y0 => K .normal (frameL [(0, .ptr (some y0))])) (fun y0 => K .ret (frameL [(2, .int .i64 y0)])) (fun v => K (.pan v) (frameL [])) :=
  evC_cond_run (g := x1) (by kernel_rfl) (spunary.u3.ok k x0 x1 K) (spunary.u12.ok k x0 x1 K)
theorem spunary.u14.ok (k : Nat) (x0 : Ad) (K : Ex → Frame → M α) :
    evC T (env k) k spunary.u14.c (frameL [(0, .ptr (some x0))]) K =
      spunary.u14.f k (spunary.f k) (spformula.f k) (spword.f k) x0 (fun y0 => K .normal (frameL [(0, .ptr (some y0))])) (fun y0 => K .ret (frameL [(2, .int .i64 y0)])) (fun v => K (.pan v) (frameL [])) :=
  (spunary.u2.ok k x0 spunary.u13.c K).trans
    (congrArg (fun z => spunary.u2.f k x0 z) (funext fun y0 => (funext fun y1 => spunary.u13.ok k y0 y1 K)))
theorem spunary.u15.ok (k : Nat) (x0 : Ad) (K : Ex → Frame → M α) :
    evC T (env k) k spunary.u15.c (frameL [(0, .ptr (some x0))]) K =
      spunary.u15.f k (spunary.f k) (spformula.f k) (spword.f k) x0 (fun y0 => K .normal (frameL [(0, .ptr (some y0))])) (fun y0 => K .ret (frameL [(2, .int .i64 y0)])) (fun v => K (.pan v) (frameL [])) :=
  (evC_block.trans (spunary.u14.ok k x0 (blockK 0 K))).trans (by kernel_rfl)
theorem spunary.u16.ok (k : Nat) (x0 : Ad) (K : Ex → Frame → M α) :
    evC T (env k) k spunary.u16.c (frameL [(0, .ptr (some x0))]) K =
      spunary.u16.f k x0 (fun y0 => K .ret (frameL [(2, .int .i64 y0)])) (fun v => K (.pan v) (frameL [])) := by kernel_rfl
theorem spunary.u17.ok (k : Nat) (x0 : Ad) (K : Ex → Frame → M α) :
    evC T (env k) k spunary.u17.c (frameL [(0, .ptr (some x0))]) K =
      spunary.u17.f k (spunary.f k) (spformula.f k) (spword.f k) x0 (fun y0 => K .ret (frameL [(2, .int .i64 y0)])) (fun v => K (.pan v) (frameL [])) :=
  by
    have h := spunary.u15.ok k x0 (seqK (fun ρ => evC T (env k) k spunary.u16.c ρ K) K)
    simp only [seqK_normal, seqK_exit, seqK_ret, seqK_pan, spunary.u16.ok] at h
    exact evC_seq_of h
theorem spunary.u18.ok (k : Nat) (x0 : Ad) (K : Ex → Frame → M α) :
    evC T (env k) k spunary.u18.c (frameL [(0, .ptr (some x0))]) K =
      spunary.u18.f k (spunary.f k) (spformula.f k) (spword.f k) x0 (fun y0 => K .ret (frameL [(2, .int .i64 y0)])) (fun v => K (.pan v) (frameL [])) :=
  (spunary.u1.ok k x0 spunary.u17.c K).trans
    (congrArg (fun z => spunary.u1.f k x0 z) (funext fun y0 => spunary.u17.ok k y0 K))
theorem spunary.ok (k : Nat) (x0 : Ad) (κ : Res → M α) :
    evF T (env k) k spunary.c spunary.res [.ptr (some x0)] κ = spunary.f (k + 1) x0 (fun v => κ (.pan v)) (fun o0 => κ (.ret (.int .i64 o0))) :=
  (spunary.u18.ok k x0 (retK T spunary.res κ)).trans (by kernel_rfl)
theorem spunary.code : spunary.c.code = bodyOf Tryd.f50 := by kernel_rfl
noncomputable def spword.c : IC := spword.u5.c
noncomputable def spword.res : List ResultVar := [(.tmp 2)]
theorem spword.u1.ok (k : Nat) (x0 : Ad) (R : IC) (K : Ex → Frame → M α) :
    evC T (env k) k (spword.u1.c R) (frameL [(0, .ptr (some x0))]) K =
      spword.u1.f k x0 (fun y0 y1 y2 => evC T (env k) k R (frameL [(0, .ptr (some y0)), (3, .ptr (some y1)), (4, .int .i64 y2)]) K) (fun y0 => K .ret (frameL [(2, .int .i64 y0)])) (fun v => K (.pan v) (frameL [])) := by kernel_rfl
theorem spword.u2.ok (k : Nat) (x0 : Ad) (x1 : Ad) (x2 : Int) (R : IC) (K : Ex → Frame → M α) :
    evC T (env k) k (spword.u2.c R) (frameL [(0, .ptr (some x0)), (3, .ptr (some x1)), (4, .int .i64 x2)]) K =
      spword.u2.f k x0 x1 x2 (fun y0 y1 y2 => evC T (env k) k R (frameL [(0, .ptr (some y0)), (3, .ptr (some y1)), (4, .int .i64 y2)]) K) (fun v => K (.pan v) (frameL [])) := by kernel_rfl
theorem spword.u3.ok (k : Nat) (x0 : Ad) (x1 : Ad) (x2 : Int) (K : Ex → Frame → M α) :
    evC T (env k) k spword.u3.c (frameL [(0, .ptr (some x0)), (3, .ptr (some x1)), (4, .int .i64 x2)]) K =
      spword.u3.f k (spformula.f k) x0 x1 x2 (fun y0 => K .ret (frameL [(2, .int .i64 y0)])) (fun v => K (.pan v) (frameL [])) := by kernel_rfl
theorem spword.u4.ok (k : Nat) (x0 : Ad) (x1 : Ad) (x2 : Int) (K : Ex → Frame → M α) :
    evC T (env k) k spword.u4.c (frameL [(0, .ptr (some x0)), (3, .ptr (some x1)), (4, .int .i64 x2)]) K =
      spword.u4.f k (spformula.f k) x0 x1 x2 (fun y0 => K .ret (frameL [(2, .int .i64 y0)])) (fun v => K (.pan v) (frameL [])) :=
  (spword.u2.ok k x0 x1 x2 spword.u3.c K).trans
    (congrArg (fun z => spword.u2.f k x0 x1 x2 z (fun v => K (.pan v) (frameL []))) (funext fun y0 => (funext fun y1 => (funext fun y2 => spword.u3.ok k y0 y1 y2 K))))
theorem spword.u5.ok (k : Nat) (x0 : Ad) (K : Ex → Frame → M α) :
    evC T (env k) k spword.u5.c (frameL [(0, .ptr (some x0))]) K =
      spword.u5.f k (spformula.f k) x0 (fun y0 => K .ret (frameL [(2, .int .i64 y0)])) (fun v => K (.pan v) (frameL [])) :=
  (spword.u1.ok k x0 spword.u4.c K).trans
    (congrArg (fun z => spword.u1.f k x0 z (fun y0 => K .ret (frameL [(2, .int .i64 y0)])) (fun v => K (.pan v) (frameL []))) (funext fun y0 => (funext fun y1 => (funext fun y2 => spword.u4.ok k y0 y1 y2 K))))
theorem spword.ok (k : Nat) (x0 : Ad) (κ : Res → M α) :
    evF T (env k) k spword.c spword.res [.ptr (some x0)] κ = spword.f (k + 1) x0 (fun v => κ (.pan v)) (fun o0 => κ (.ret (.int .i64 o0))) :=
  (spword.u5.ok k x0 (retK T spword.res κ)).trans (by kernel_rfl)
theorem spword.code : spword.c.code = bodyOf Tryd.f59 := by kernel_rfl
noncomputable def syntax_Parse.res : List ResultVar := [(.cell 2 22), (.cell 3 27)]
theorem syntax_Parse.sp (k : Nat) (x0 : List UInt8) (K : Ex → Frame → M α) (Kn : Frame → M α) :
    evSpine T (env k) k syntax_Parse.as (frameL [(0, .str x0)]) K Kn = syntax_Parse.u1.f k x0 (fun y0 y1 y2 => Kn (frameL [(2, .ptr (some y0)), (3, .ptr (some y1)), (4, .slice y2)])) (fun y0 y1 => K .ret (frameL [(2, .ptr (some y0)), (3, .ptr (some y1))])) := by kernel_rfl
theorem syntax_Parse.bok (k : Nat) (y0 : Ad) (y1 : Ad) (y2 : Sl) (K : Ex → Frame → M α) :
    evC T (env k) k syntax_Parse.u2.c (Frame.put (frameL [(2, .ptr (some y0)), (3, .ptr (some y1)), (4, .slice y2)]) (some 14) (.func 19 [] [.ptr (some y0), .ptr (some y1)])) K = syntax_Parse.u2.f k y0 y1 y2 (fun z0 z1 => K .ret (frameL [(2, .ptr (some z0)), (3, .ptr (some z1))])) (fun v => K (.pan v) (frameL [])) := by kernel_rfl
theorem syntax_Parse.ret (k : Nat) (y0 : Ad) (y1 : Ad) (y2 : Sl) (z0 : Ad) (z1 : Ad) (κ : Res → M α) :
    (deferB T (env k) k syntax_Parse.C.u1.c 5 [2, 3] syntax_Parse.res [.ptr (some y0), .ptr (some y1)] (frameL [(2, .ptr (some y0)), (3, .ptr (some y1)), (4, .slice y2)]) κ) .ret (frameL [(2, .ptr (some z0)), (3, .ptr (some z1))]) = syntax_Parse.C.u1.f k y0 y1 .nilIface (
  ldS (z0.add 0) fun o501 =>
  ld (z1.add 0) fun o502 =>
  (fun o0 o1 => κ (.ret (.tuple [.slice o0, o1]))) o501 o502) := by kernel_rfl
theorem syntax_Parse.pan (k : Nat) (y0 : Ad) (y1 : Ad) (y2 : Sl) (v : V) (ρ : Frame) (κ : Res → M α) :
    (deferB T (env k) k syntax_Parse.C.u1.c 5 [2, 3] syntax_Parse.res [.ptr (some y0), .ptr (some y1)] (frameL [(2, .ptr (some y0)), (3, .ptr (some y1)), (4, .slice y2)]) κ) (.pan v) ρ = syntax_Parse.C.u1.f k y0 y1 v (
  ldS (y0.add 0) fun o501 =>
  ld (y1.add 0) fun o502 =>
  (fun o0 o1 => κ (.ret (.tuple [.slice o0, o1]))) o501 o502) := by kernel_rfl
theorem syntax_Parse.reta (y0 : Ad) (y1 : Ad) (κ : Res → M α) :
    deferA T syntax_Parse.res κ .ret (frameL [(2, .ptr (some y0)), (3, .ptr (some y1))]) = (
  ldS (y0.add 0) fun o501 =>
  ld (y1.add 0) fun o502 =>
  (fun o0 o1 => κ (.ret (.tuple [.slice o0, o1]))) o501 o502) := by kernel_rfl
theorem syntax_Parse.ok (k : Nat) (x0 : List UInt8) (κ : Res → M α) :
    evDefer T (env k) k syntax_Parse.as syntax_Parse.u2.c syntax_Parse.C.u1.c 19 14 5 [.tmp 2, .tmp 3] [2, 3] syntax_Parse.res [.str x0] κ = syntax_Parse.f (k + 1) x0 (fun o0 o1 => κ (.ret (.tuple [.slice o0, o1]))) :=
  (syntax_Parse.sp k x0 _ _).trans (congr (congrArg (fun a b => syntax_Parse.u1.f k x0 a b) (funext fun y0 => funext fun y1 => funext fun y2 => (syntax_Parse.bok k y0 y1 y2 _).trans (congr (congrArg (fun a b => syntax_Parse.u2.f k y0 y1 y2 a b) (funext fun z0 => funext fun z1 => syntax_Parse.ret k y0 y1 y2 z0 z1 κ)) (funext fun v => syntax_Parse.pan k y0 y1 y2 v _ κ)))) (funext fun y0 => funext fun y1 => syntax_Parse.reta y0 y1 κ))
noncomputable def syntax_spelt.c : IC := syntax_spelt.u9.c
noncomputable def syntax_spelt.res : List ResultVar := [(.tmp 6)]
theorem syntax_spelt.u1.ok (k : Nat) (x0 : List UInt8) (x1 : Int) (x2 : Int) (R : IC) (K : Ex → Frame → M α) :
    evC T (env k) k (syntax_spelt.u1.c R) (frameL [(0, .str x0), (1, .int .u8 x1), (2, .int .u8 x2)]) K =
      syntax_spelt.u1.f k x0 x1 x2 (fun y0 => evC T (env k) k R (frameL [(0, .str y0)]) K) (fun y0 => K .ret (frameL [(6, .bool y0)])) := by kernel_rfl
theorem syntax_spelt.u2.ok (k : Nat) (x0 : List UInt8) (R : IC) (K : Ex → Frame → M α) :
    evC T (env k) k (syntax_spelt.u2.c R) (frameL [(0, .str x0)]) K =
      syntax_spelt.u2.f k x0 (fun y0 y1 y2 => evC T (env k) k R (frameL [(0, .str y0), (30, .int .i64 y1), (31, .int .i64 y2)]) K) := by kernel_rfl
theorem syntax_spelt.u3.ok (k : Nat) (x0 : List UInt8) (x1 : Int) (x2 : Int) (K : Ex → Frame → M α) :
    evC T (env k) k syntax_spelt.u3.c (frameL [(0, .str x0), (30, .int .i64 x1), (31, .int .i64 x2)]) K =
      syntax_spelt.u3.f k x0 x1 x2 (fun y0 y1 y2 => K .normal (frameL [(0, .str y0), (30, .int .i64 y1), (31, .int .i64 y2)])) (fun y0 => K .ret (frameL [(6, .bool y0)])) (K (.exit 0) (frameL [])) := by kernel_rfl
theorem syntax_spelt.u4.ls (k : Nat) (kr : Bool → M α) (kx0 : M α) (j : Nat) (x0 : List UInt8) (x1 : Int) (x2 : Int) : syntax_spelt.u4.l k kr kx0 (j + 1) x0 x1 x2 =
  syntax_spelt.u3.f k x0 x1 x2 (fun y0 y1 y2 => syntax_spelt.u4.l k kr kx0 j y0 y1 y2) kr kx0 := rfl
theorem syntax_spelt.u4.okl (k : Nat) (K : Ex → Frame → M α) : ∀ (j : Nat) (x0 : List UInt8) (x1 : Int) (x2 : Int),
    evLoop (evC T (env k) k syntax_spelt.u3.c) [0, 30, 31] j (frameL [(0, .str x0), (30, .int .i64 x1), (31, .int .i64 x2)]) K = syntax_spelt.u4.l k (fun y0 => K .ret (frameL [(6, .bool y0)])) (K (.exit 0) (frameL [])) j x0 x1 x2
  | 0, _, _, _ => rfl
  | j + 1, x0, x1, x2 => by
      have h := syntax_spelt.u3.ok k x0 x1 x2 (seqK (fun ρ => evLoop (evC T (env k) k syntax_spelt.u3.c) [0, 30, 31] j ρ K) K)
      simp only [seqK_exit, seqK_ret, seqK_pan, seqK_normal, syntax_spelt.u4.okl k K j] at h
      exact (evLoop_step (by kernel_rfl) h).trans (syntax_spelt.u4.ls k (fun y0 => K .ret (frameL [(6, .bool y0)])) (K (.exit 0) (frameL [])) j x0 x1 x2).symm
theorem syntax_spelt.u4.ok (k : Nat) (x0 : List UInt8) (x1 : Int) (x2 : Int) (K : Ex → Frame → M α) :
    evC T (env k) k syntax_spelt.u4.c (frameL [(0, .str x0), (30, .int .i64 x1), (31, .int .i64 x2)]) K =
      syntax_spelt.u4.f k x0 x1 x2 (fun y0 => K .ret (frameL [(6, .bool y0)])) (K (.exit 0) (frameL [])) :=
  evC_loop.trans <| (evLoop_keep (body := evC T (env k) k syntax_spelt.u3.c) (keep := [0, 30, 31]) (ρ := (frameL [(0, .str x0), (30, .int .i64 x1), (31, .int .i64 x2)])) (ρ' := (frameL [(0, .str x0), (30, .int .i64 x1), (31, .int .i64 x2)])) (by kernel_rfl) k K).trans (syntax_spelt.u4.okl k K k x0 x1 x2)
theorem syntax_spelt.u5.ok (k : Nat) (x0 : List UInt8) (x1 : Int) (x2 : Int) (K : Ex → Frame → M α) :
    evC T (env k) k syntax_spelt.u5.c (frameL [(0, .str x0), (30, .int .i64 x1), (31, .int .i64 x2)]) K =
      syntax_spelt.u5.f k x0 x1 x2 (K .normal (frameL [])) (fun y0 => K .ret (frameL [(6, .bool y0)])) :=
  (evC_block.trans (syntax_spelt.u4.ok k x0 x1 x2 (blockK 0 K))).trans (by kernel_rfl)
theorem syntax_spelt.u6.ok (k : Nat) (x0 : List UInt8) (K : Ex → Frame → M α) :
    evC T (env k) k syntax_spelt.u6.c (frameL [(0, .str x0)]) K =
      syntax_spelt.u6.f k x0 (K .normal (frameL [])) (fun y0 => K .ret (frameL [(6, .bool y0)])) :=
  (syntax_spelt.u2.ok k x0 syntax_spelt.u5.c K).trans
    (congrArg (fun z => syntax_spelt.u2.f k x0 z) (funext fun y0 => (funext fun y1 => (funext fun y2 => syntax_spelt.u5.ok k y0 y1 y2 K))))
theorem syntax_spelt.u7.ok (k : Nat) (K : Ex → Frame → M α) :
    evC T (env k) k syntax_spelt.u7.c (frameL []) K =
      syntax_spelt.u7.f k (fun y0 => K .ret (frameL [(6, .bool y0)])) := by kernel_rfl
theorem syntax_spelt.u8.ok (k : Nat) (x0 : List UInt8) (K : Ex → Frame → M α) :
    evC T (env k) k syntax_spelt.u8.c (frameL [(0, .str x0)]) K =
      syntax_spelt.u8.f k x0 (fun y0 => K .ret (frameL [(6, .bool y0)])) :=
  by
    have h := syntax_spelt.u6.ok k x0 (seqK (fun ρ => evC T (env k) k syntax_spelt.u7.c ρ K) K)
    simp only [seqK_normal, seqK_exit, seqK_ret, seqK_pan, syntax_spelt.u7.ok] at h
    exact evC_seq_of h
theorem syntax_spelt.u9.ok (k : Nat) (x0 : List UInt8) (x1 : Int) (x2 : Int) (K : Ex → Frame → M α) :
    evC T (env k) k syntax_spelt.u9.c (frameL [(0, .str x0), (1, .int .u8 x1), (2, .int .u8 x2)]) K =
      syntax_spelt.u9.f k x0 x1 x2 (fun y0 => K .ret (frameL [(6, .bool y0)])) :=
  (syntax_spelt.u1.ok k x0 x1 x2 syntax_spelt.u8.c K).trans
    (congrArg (fun z => syntax_spelt.u1.f k x0 x1 x2 z (fun y0 => K .ret (frameL [(6, .bool y0)]))) (funext fun y0 => syntax_spelt.u8.ok k y0 K))
theorem syntax_spelt.ok (k : Nat) (x0 : List UInt8) (x1 : Int) (x2 : Int) (κ : Res → M α) :
    evF T (env k) k syntax_spelt.c syntax_spelt.res [.str x0, .int .u8 x1, .int .u8 x2] κ = syntax_spelt.f (k + 1) x0 x1 x2 (fun o0 => κ (.ret (.bool o0))) :=
  (syntax_spelt.u9.ok k x0 x1 x2 (retK T syntax_spelt.res κ)).trans (by kernel_rfl)
theorem syntax_spelt.code : syntax_spelt.c.code = bodyOf Tryd.f41 := by kernel_rfl
noncomputable def syntax_name.c : IC := syntax_name.u1.c
noncomputable def syntax_name.res : List ResultVar := [(.tmp 2)]
theorem syntax_name.u1.ok (k : Nat) (x0 : List UInt8) (K : Ex → Frame → M α) :
    evC T (env k) k syntax_name.u1.c (frameL [(0, .str x0)]) K =
      syntax_name.u1.f k x0 (fun y0 => K .ret (frameL [(2, .bool y0)])) := by kernel_rfl
theorem syntax_name.ok (k : Nat) (x0 : List UInt8) (κ : Res → M α) :
    evF T (env k) k syntax_name.c syntax_name.res [.str x0] κ = syntax_name.f (k + 1) x0 (fun o0 => κ (.ret (.bool o0))) :=
  (syntax_name.u1.ok k x0 (retK T syntax_name.res κ)).trans (by kernel_rfl)
theorem syntax_name.code : syntax_name.c.code = bodyOf Tryd.f27 := by kernel_rfl
noncomputable def syntax_variable.c : IC := syntax_variable.u1.c
noncomputable def syntax_variable.res : List ResultVar := [(.tmp 2)]
theorem syntax_variable.u1.ok (k : Nat) (x0 : List UInt8) (K : Ex → Frame → M α) :
    evC T (env k) k syntax_variable.u1.c (frameL [(0, .str x0)]) K =
      syntax_variable.u1.f k x0 (fun y0 => K .ret (frameL [(2, .bool y0)])) := by kernel_rfl
theorem syntax_variable.ok (k : Nat) (x0 : List UInt8) (κ : Res → M α) :
    evF T (env k) k syntax_variable.c syntax_variable.res [.str x0] κ = syntax_variable.f (k + 1) x0 (fun o0 => κ (.ret (.bool o0))) :=
  (syntax_variable.u1.ok k x0 (retK T syntax_variable.res κ)).trans (by kernel_rfl)
theorem syntax_variable.code : syntax_variable.c.code = bodyOf Tryd.f28 := by kernel_rfl
noncomputable def syntax_below.c : IC := syntax_below.u1.c
noncomputable def syntax_below.res : List ResultVar := [(.tmp 2), (.tmp 3)]
theorem syntax_below.u1.ok (k : Nat) (x0 : Int) (x1 : Int) (x2 : Int) (x3 : List UInt8) (x4 : Int) (K : Ex → Frame → M α) :
    evC T (env k) k syntax_below.u1.c (frameL [(0, .agg [.int .i64 x0, .int .i64 x1, .int .i64 x2, .str x3, .int .i64 x4])]) K =
      syntax_below.u1.f k x0 x1 x2 x3 x4 (fun y0 y1 => K .ret (frameL [(2, .int .i64 y0), (3, .bool y1)])) := by kernel_rfl
theorem syntax_below.ok (k : Nat) (x0 : Int) (x1 : Int) (x2 : Int) (x3 : List UInt8) (x4 : Int) (κ : Res → M α) :
    evF T (env k) k syntax_below.c syntax_below.res [.agg [.int .i64 x0, .int .i64 x1, .int .i64 x2, .str x3, .int .i64 x4]] κ = syntax_below.f (k + 1) x0 x1 x2 x3 x4 (fun o0 o1 => κ (.ret (.tuple [.int .i64 o0, .bool o1]))) :=
  (syntax_below.u1.ok k x0 x1 x2 x3 x4 (retK T syntax_below.res κ)).trans (by kernel_rfl)
theorem syntax_below.code : syntax_below.c.code = bodyOf Tryd.f14 := by kernel_rfl
noncomputable def syntax_Right_c1.c : IC := syntax_Right_c1.u1.c
noncomputable def syntax_Right_c1.res : List ResultVar := [(.tmp 2)]
theorem syntax_Right_c1.u1.ok (k : Nat) (x0 : Int) (K : Ex → Frame → M α) :
    evC T (env k) k syntax_Right_c1.u1.c (frameL [(0, .int .i64 x0)]) K =
      syntax_Right_c1.u1.f k x0 (fun y0 => K .ret (frameL [(2, .bool y0)])) := by kernel_rfl
theorem syntax_Right_c1.ok (k : Nat) (x0 : Int) (κ : Res → M α) :
    evF T (env k) k syntax_Right_c1.c syntax_Right_c1.res [.int .i64 x0] κ = syntax_Right_c1.f (k + 1) x0 (fun o0 => κ (.ret (.bool o0))) :=
  (syntax_Right_c1.u1.ok k x0 (retK T syntax_Right_c1.res κ)).trans (by kernel_rfl)
theorem syntax_Right_c1.code : syntax_Right_c1.c.code = bodyOf Tryd.f16 := by kernel_rfl
noncomputable def slices_IndexFunc_int_int_16.c : IC := slices_IndexFunc_int_int_16.u9.c
noncomputable def slices_IndexFunc_int_int_16.res : List ResultVar := [(.tmp 4)]
theorem slices_IndexFunc_int_int_16.u1.ok (k : Nat) (x0 : Sl) (R : IC) (K : Ex → Frame → M α) :
    evC T (env k) k (slices_IndexFunc_int_int_16.u1.c R) (frameL [(0, .slice x0), (1, .func 16 [] [])]) K =
      slices_IndexFunc_int_int_16.u1.f k x0 (fun y0 => evC T (env k) k R (frameL [(0, .slice y0), (1, .func 16 [] [])]) K) := by kernel_rfl
theorem slices_IndexFunc_int_int_16.u2.ok (k : Nat) (x0 : Sl) (R : IC) (K : Ex → Frame → M α) :
    evC T (env k) k (slices_IndexFunc_int_int_16.u2.c R) (frameL [(0, .slice x0), (1, .func 16 [] [])]) K =
      slices_IndexFunc_int_int_16.u2.f k x0 (fun y0 y1 y2 => evC T (env k) k R (frameL [(0, .slice y0), (1, .func 16 [] []), (7, .int .i64 y1), (8, .int .i64 y2)]) K) := by kernel_rfl
theorem slices_IndexFunc_int_int_16.u3.ok (k : Nat) (x0 : Sl) (x1 : Int) (x2 : Int) (K : Ex → Frame → M α) :
    evC T (env k) k slices_IndexFunc_int_int_16.u3.c (frameL [(0, .slice x0), (1, .func 16 [] []), (7, .int .i64 x1), (8, .int .i64 x2)]) K =
      slices_IndexFunc_int_int_16.u3.f k x0 x1 x2 (fun y0 y1 y2 => K .normal (frameL [(0, .slice y0), (1, .func 16 [] []), (7, .int .i64 y1), (8, .int .i64 y2)])) (fun y0 => K .ret (frameL [(4, .int .i64 y0)])) (K (.exit 0) (frameL [])) := by kernel_rfl
theorem slices_IndexFunc_int_int_16.u4.ls (k : Nat) (kr : Int → M α) (kx0 : M α) (j : Nat) (x0 : Sl) (x1 : Int) (x2 : Int) : slices_IndexFunc_int_int_16.u4.l k kr kx0 (j + 1) x0 x1 x2 =
  slices_IndexFunc_int_int_16.u3.f k x0 x1 x2 (fun y0 y1 y2 => slices_IndexFunc_int_int_16.u4.l k kr kx0 j y0 y1 y2) kr kx0 := rfl
theorem slices_IndexFunc_int_int_16.u4.okl (k : Nat) (K : Ex → Frame → M α) : ∀ (j : Nat) (x0 : Sl) (x1 : Int) (x2 : Int),
    evLoop (evC T (env k) k slices_IndexFunc_int_int_16.u3.c) [0, 1, 7, 8] j (frameL [(0, .slice x0), (1, .func 16 [] []), (7, .int .i64 x1), (8, .int .i64 x2)]) K = slices_IndexFunc_int_int_16.u4.l k (fun y0 => K .ret (frameL [(4, .int .i64 y0)])) (K (.exit 0) (frameL [])) j x0 x1 x2
  | 0, _, _, _ => rfl
  | j + 1, x0, x1, x2 => by
      have h := slices_IndexFunc_int_int_16.u3.ok k x0 x1 x2 (seqK (fun ρ => evLoop (evC T (env k) k slices_IndexFunc_int_int_16.u3.c) [0, 1, 7, 8] j ρ K) K)
      simp only [seqK_exit, seqK_ret, seqK_pan, seqK_normal, slices_IndexFunc_int_int_16.u4.okl k K j] at h
      exact (evLoop_step (by kernel_rfl) h).trans (slices_IndexFunc_int_int_16.u4.ls k (fun y0 => K .ret (frameL [(4, .int .i64 y0)])) (K (.exit 0) (frameL [])) j x0 x1 x2).symm
theorem slices_IndexFunc_int_int_16.u4.ok (k : Nat) (x0 : Sl) (x1 : Int) (x2 : Int) (K : Ex → Frame → M α) :
    evC T (env k) k slices_IndexFunc_int_int_16.u4.c (frameL [(0, .slice x0), (1, .func 16 [] []), (7, .int .i64 x1), (8, .int .i64 x2)]) K =
      slices_IndexFunc_int_int_16.u4.f k x0 x1 x2 (fun y0 => K .ret (frameL [(4, .int .i64 y0)])) (K (.exit 0) (frameL [])) :=
  evC_loop.trans <| (evLoop_keep (body := evC T (env k) k slices_IndexFunc_int_int_16.u3.c) (keep := [0, 1, 7, 8]) (ρ := (frameL [(0, .slice x0), (1, .func 16 [] []), (7, .int .i64 x1), (8, .int .i64 x2)])) (ρ' := (frameL [(0, .slice x0), (1, .func 16 [] []), (7, .int .i64 x1), (8, .int .i64 x2)])) (by kernel_rfl) k K).trans (slices_IndexFunc_int_int_16.u4.okl k K k x0 x1 x2)
theorem slices_IndexFunc_int_int_16.u5.ok (k : Nat) (x0 : Sl) (x1 : Int) (x2 : Int) (K : Ex → Frame → M α) :
    evC T (env k) k slices_IndexFunc_int_int_16.u5.c (frameL [(0, .slice x0), (1, .func 16 [] []), (7, .int .i64 x1), (8, .int .i64 x2)]) K =
      slices_IndexFunc_int_int_16.u5.f k x0 x1 x2 (K .normal (frameL [])) (fun y0 => K .ret (frameL [(4, .int .i64 y0)])) :=
  (evC_block.trans (slices_IndexFunc_int_int_16.u4.ok k x0 x1 x2 (blockK 0 K))).trans (by kernel_rfl)
theorem slices_IndexFunc_int_int_16.u6.ok (k : Nat) (x0 : Sl) (K : Ex → Frame → M α) :
    evC T (env k) k slices_IndexFunc_int_int_16.u6.c (frameL [(0, .slice x0), (1, .func 16 [] [])]) K =
      slices_IndexFunc_int_int_16.u6.f k x0 (K .normal (frameL [])) (fun y0 => K .ret (frameL [(4, .int .i64 y0)])) :=
  (slices_IndexFunc_int_int_16.u2.ok k x0 slices_IndexFunc_int_int_16.u5.c K).trans
    (congrArg (fun z => slices_IndexFunc_int_int_16.u2.f k x0 z) (funext fun y0 => (funext fun y1 => (funext fun y2 => slices_IndexFunc_int_int_16.u5.ok k y0 y1 y2 K))))
theorem slices_IndexFunc_int_int_16.u7.ok (k : Nat) (K : Ex → Frame → M α) :
    evC T (env k) k slices_IndexFunc_int_int_16.u7.c (frameL []) K =
      slices_IndexFunc_int_int_16.u7.f k (fun y0 => K .ret (frameL [(4, .int .i64 y0)])) := by kernel_rfl
theorem slices_IndexFunc_int_int_16.u8.ok (k : Nat) (x0 : Sl) (K : Ex → Frame → M α) :
    evC T (env k) k slices_IndexFunc_int_int_16.u8.c (frameL [(0, .slice x0), (1, .func 16 [] [])]) K =
      slices_IndexFunc_int_int_16.u8.f k x0 (fun y0 => K .ret (frameL [(4, .int .i64 y0)])) :=
  by
    have h := slices_IndexFunc_int_int_16.u6.ok k x0 (seqK (fun ρ => evC T (env k) k slices_IndexFunc_int_int_16.u7.c ρ K) K)
    simp only [seqK_normal, seqK_exit, seqK_ret, seqK_pan, slices_IndexFunc_int_int_16.u7.ok] at h
    exact evC_seq_of h
theorem slices_IndexFunc_int_int_16.u9.ok (k : Nat) (x0 : Sl) (K : Ex → Frame → M α) :
    evC T (env k) k slices_IndexFunc_int_int_16.u9.c (frameL [(0, .slice x0), (1, .func 16 [] [])]) K =
      slices_IndexFunc_int_int_16.u9.f k x0 (fun y0 => K .ret (frameL [(4, .int .i64 y0)])) :=
  (slices_IndexFunc_int_int_16.u1.ok k x0 slices_IndexFunc_int_int_16.u8.c K).trans
    (congrArg (fun z => slices_IndexFunc_int_int_16.u1.f k x0 z) (funext fun y0 => slices_IndexFunc_int_int_16.u8.ok k y0 K))
theorem slices_IndexFunc_int_int_16.ok (k : Nat) (x0 : Sl) (κ : Res → M α) :
    evF T (env k) k slices_IndexFunc_int_int_16.c slices_IndexFunc_int_int_16.res [.slice x0, .func 16 [] []] κ = slices_IndexFunc_int_int_16.f (k + 1) x0 (fun o0 => κ (.ret (.int .i64 o0))) :=
  (slices_IndexFunc_int_int_16.u9.ok k x0 (retK T slices_IndexFunc_int_int_16.res κ)).trans (by kernel_rfl)
theorem slices_IndexFunc_int_int_16.code : slices_IndexFunc_int_int_16.c.code = bodyOf Tryd.f29 := by kernel_rfl
noncomputable def slices_ContainsFunc_int_int_16.c : IC := slices_ContainsFunc_int_int_16.u1.c
noncomputable def slices_ContainsFunc_int_int_16.res : List ResultVar := [(.tmp 4)]
theorem slices_ContainsFunc_int_int_16.u1.ok (k : Nat) (x0 : Sl) (K : Ex → Frame → M α) :
    evC T (env k) k slices_ContainsFunc_int_int_16.u1.c (frameL [(0, .slice x0), (1, .func 16 [] [])]) K =
      slices_ContainsFunc_int_int_16.u1.f k x0 (fun y0 => K .ret (frameL [(4, .bool y0)])) := by kernel_rfl
theorem slices_ContainsFunc_int_int_16.ok (k : Nat) (x0 : Sl) (κ : Res → M α) :
    evF T (env k) k slices_ContainsFunc_int_int_16.c slices_ContainsFunc_int_int_16.res [.slice x0, .func 16 [] []] κ = slices_ContainsFunc_int_int_16.f (k + 1) x0 (fun o0 => κ (.ret (.bool o0))) :=
  (slices_ContainsFunc_int_int_16.u1.ok k x0 (retK T slices_ContainsFunc_int_int_16.res κ)).trans (by kernel_rfl)
theorem slices_ContainsFunc_int_int_16.code : slices_ContainsFunc_int_int_16.c.code = bodyOf Tryd.f15 := by kernel_rfl
noncomputable def slEq.c : IC := slEq.u9.c
noncomputable def slEq.res : List ResultVar := [(.tmp 4)]
theorem slEq.u1.ok (k : Nat) (x0 : Sl) (x1 : Sl) (R : IC) (K : Ex → Frame → M α) :
    evC T (env k) k (slEq.u1.c R) (frameL [(0, .slice x0), (1, .slice x1)]) K =
      slEq.u1.f k x0 x1 (fun y0 y1 => evC T (env k) k R (frameL [(0, .slice y0), (1, .slice y1)]) K) (fun y0 => K .ret (frameL [(4, .bool y0)])) := by kernel_rfl
theorem slEq.u2.ok (k : Nat) (x0 : Sl) (x1 : Sl) (R : IC) (K : Ex → Frame → M α) :
    evC T (env k) k (slEq.u2.c R) (frameL [(0, .slice x0), (1, .slice x1)]) K =
      slEq.u2.f k x0 x1 (fun y0 y1 y2 y3 => evC T (env k) k R (frameL [(0, .slice y0), (1, .slice y1), (12, .int .i64 y2), (13, .int .i64 y3)]) K) := by kernel_rfl
theorem slEq.u3.ok (k : Nat) (x0 : Sl) (x1 : Sl) (x2 : Int) (x3 : Int) (K : Ex → Frame → M α) :
    evC T (env k) k slEq.u3.c (frameL [(0, .slice x0), (1, .slice x1), (12, .int .i64 x2), (13, .int .i64 x3)]) K =
      slEq.u3.f k x0 x1 x2 x3 (fun y0 y1 y2 y3 => K .normal (frameL [(0, .slice y0), (1, .slice y1), (12, .int .i64 y2), (13, .int .i64 y3)])) (fun y0 => K .ret (frameL [(4, .bool y0)])) (K (.exit 0) (frameL [])) := by kernel_rfl
theorem slEq.u4.ls (k : Nat) (kr : Bool → M α) (kx0 : M α) (j : Nat) (x0 : Sl) (x1 : Sl) (x2 : Int) (x3 : Int) : slEq.u4.l k kr kx0 (j + 1) x0 x1 x2 x3 =
  slEq.u3.f k x0 x1 x2 x3 (fun y0 y1 y2 y3 => slEq.u4.l k kr kx0 j y0 y1 y2 y3) kr kx0 := rfl
theorem slEq.u4.okl (k : Nat) (K : Ex → Frame → M α) : ∀ (j : Nat) (x0 : Sl) (x1 : Sl) (x2 : Int) (x3 : Int),
    evLoop (evC T (env k) k slEq.u3.c) [0, 1, 12, 13] j (frameL [(0, .slice x0), (1, .slice x1), (12, .int .i64 x2), (13, .int .i64 x3)]) K = slEq.u4.l k (fun y0 => K .ret (frameL [(4, .bool y0)])) (K (.exit 0) (frameL [])) j x0 x1 x2 x3
  | 0, _, _, _, _ => rfl
  | j + 1, x0, x1, x2, x3 => by
      have h := slEq.u3.ok k x0 x1 x2 x3 (seqK (fun ρ => evLoop (evC T (env k) k slEq.u3.c) [0, 1, 12, 13] j ρ K) K)
      simp only [seqK_exit, seqK_ret, seqK_pan, seqK_normal, slEq.u4.okl k K j] at h
      exact (evLoop_step (by kernel_rfl) h).trans (slEq.u4.ls k (fun y0 => K .ret (frameL [(4, .bool y0)])) (K (.exit 0) (frameL [])) j x0 x1 x2 x3).symm
theorem slEq.u4.ok (k : Nat) (x0 : Sl) (x1 : Sl) (x2 : Int) (x3 : Int) (K : Ex → Frame → M α) :
    evC T (env k) k slEq.u4.c (frameL [(0, .slice x0), (1, .slice x1), (12, .int .i64 x2), (13, .int .i64 x3)]) K =
      slEq.u4.f k x0 x1 x2 x3 (fun y0 => K .ret (frameL [(4, .bool y0)])) (K (.exit 0) (frameL [])) :=
  evC_loop.trans <| (evLoop_keep (body := evC T (env k) k slEq.u3.c) (keep := [0, 1, 12, 13]) (ρ := (frameL [(0, .slice x0), (1, .slice x1), (12, .int .i64 x2), (13, .int .i64 x3)])) (ρ' := (frameL [(0, .slice x0), (1, .slice x1), (12, .int .i64 x2), (13, .int .i64 x3)])) (by kernel_rfl) k K).trans (slEq.u4.okl k K k x0 x1 x2 x3)
theorem slEq.u5.ok (k : Nat) (x0 : Sl) (x1 : Sl) (x2 : Int) (x3 : Int) (K : Ex → Frame → M α) :
    evC T (env k) k slEq.u5.c (frameL [(0, .slice x0), (1, .slice x1), (12, .int .i64 x2), (13, .int .i64 x3)]) K =
      slEq.u5.f k x0 x1 x2 x3 (K .normal (frameL [])) (fun y0 => K .ret (frameL [(4, .bool y0)])) :=
  (evC_block.trans (slEq.u4.ok k x0 x1 x2 x3 (blockK 0 K))).trans (by kernel_rfl)
theorem slEq.u6.ok (k : Nat) (x0 : Sl) (x1 : Sl) (K : Ex → Frame → M α) :
    evC T (env k) k slEq.u6.c (frameL [(0, .slice x0), (1, .slice x1)]) K =
      slEq.u6.f k x0 x1 (K .normal (frameL [])) (fun y0 => K .ret (frameL [(4, .bool y0)])) :=
  (slEq.u2.ok k x0 x1 slEq.u5.c K).trans
    (congrArg (fun z => slEq.u2.f k x0 x1 z) (funext fun y0 => (funext fun y1 => (funext fun y2 => (funext fun y3 => slEq.u5.ok k y0 y1 y2 y3 K)))))
theorem slEq.u7.ok (k : Nat) (K : Ex → Frame → M α) :
    evC T (env k) k slEq.u7.c (frameL []) K =
      slEq.u7.f k (fun y0 => K .ret (frameL [(4, .bool y0)])) := by kernel_rfl
theorem slEq.u8.ok (k : Nat) (x0 : Sl) (x1 : Sl) (K : Ex → Frame → M α) :
    evC T (env k) k slEq.u8.c (frameL [(0, .slice x0), (1, .slice x1)]) K =
      slEq.u8.f k x0 x1 (fun y0 => K .ret (frameL [(4, .bool y0)])) :=
  by
    have h := slEq.u6.ok k x0 x1 (seqK (fun ρ => evC T (env k) k slEq.u7.c ρ K) K)
    simp only [seqK_normal, seqK_exit, seqK_ret, seqK_pan, slEq.u7.ok] at h
    exact evC_seq_of h
theorem slEq.u9.ok (k : Nat) (x0 : Sl) (x1 : Sl) (K : Ex → Frame → M α) :
    evC T (env k) k slEq.u9.c (frameL [(0, .slice x0), (1, .slice x1)]) K =
      slEq.u9.f k x0 x1 (fun y0 => K .ret (frameL [(4, .bool y0)])) :=
  (slEq.u1.ok k x0 x1 slEq.u8.c K).trans
    (congrArg (fun z => slEq.u1.f k x0 x1 z (fun y0 => K .ret (frameL [(4, .bool y0)]))) (funext fun y0 => (funext fun y1 => slEq.u8.ok k y0 y1 K)))
theorem slEq.ok (k : Nat) (x0 : Sl) (x1 : Sl) (κ : Res → M α) :
    evF T (env k) k slEq.c slEq.res [.slice x0, .slice x1] κ = slEq.f (k + 1) x0 x1 (fun o0 => κ (.ret (.bool o0))) :=
  (slEq.u9.ok k x0 x1 (retK T slEq.res κ)).trans (by kernel_rfl)
theorem slEq.code : slEq.c.code = bodyOf Tryd.f17 := by kernel_rfl
noncomputable def syntax_Right.c : IC := syntax_Right.u9.c
noncomputable def syntax_Right.res : List ResultVar := [(.tmp 2)]
theorem syntax_Right.u1.ok (k : Nat) (x0 : Sl) (R : IC) (K : Ex → Frame → M α) :
    evC T (env k) k (syntax_Right.u1.c R) (frameL [(0, .slice x0)]) K =
      syntax_Right.u1.f k x0 (fun y0 y1 => evC T (env k) k R (frameL [(0, .slice y0), (3, .slice y1)]) K) (fun y0 => K .ret (frameL [(2, .bool y0)])) := by kernel_rfl
theorem syntax_Right.u2.ok (k : Nat) (x0 : Sl) (x1 : Sl) (R : IC) (K : Ex → Frame → M α) :
    evC T (env k) k (syntax_Right.u2.c R) (frameL [(0, .slice x0), (3, .slice x1)]) K =
      syntax_Right.u2.f k x0 x1 (fun y0 y1 y2 y3 => evC T (env k) k R (frameL [(3, .slice y0), (17, .slice y1), (18, .int .i64 y2), (19, .int .i64 y3)]) K) := by kernel_rfl
theorem syntax_Right.u3.ok (k : Nat) (x0 : Sl) (x1 : Sl) (x2 : Int) (x3 : Int) (K : Ex → Frame → M α) :
    evC T (env k) k syntax_Right.u3.c (frameL [(3, .slice x0), (17, .slice x1), (18, .int .i64 x2), (19, .int .i64 x3)]) K =
      syntax_Right.u3.f k x0 x1 x2 x3 (fun y0 y1 y2 y3 => K .normal (frameL [(3, .slice y0), (17, .slice y1), (18, .int .i64 y2), (19, .int .i64 y3)])) (fun y0 => K .ret (frameL [(2, .bool y0)])) (fun y0 => K (.exit 0) (frameL [(3, .slice y0)])) := by kernel_rfl
theorem syntax_Right.u4.ls (k : Nat) (kr : Bool → M α) (kx0 : Sl → M α) (j : Nat) (x0 : Sl) (x1 : Sl) (x2 : Int) (x3 : Int) : syntax_Right.u4.l k kr kx0 (j + 1) x0 x1 x2 x3 =
  syntax_Right.u3.f k x0 x1 x2 x3 (fun y0 y1 y2 y3 => syntax_Right.u4.l k kr kx0 j y0 y1 y2 y3) kr kx0 := rfl
theorem syntax_Right.u4.okl (k : Nat) (K : Ex → Frame → M α) : ∀ (j : Nat) (x0 : Sl) (x1 : Sl) (x2 : Int) (x3 : Int),
    evLoop (evC T (env k) k syntax_Right.u3.c) [3, 17, 18, 19] j (frameL [(3, .slice x0), (17, .slice x1), (18, .int .i64 x2), (19, .int .i64 x3)]) K = syntax_Right.u4.l k (fun y0 => K .ret (frameL [(2, .bool y0)])) (fun y0 => K (.exit 0) (frameL [(3, .slice y0)])) j x0 x1 x2 x3
  | 0, _, _, _, _ => rfl
  | j + 1, x0, x1, x2, x3 => by
      have h := syntax_Right.u3.ok k x0 x1 x2 x3 (seqK (fun ρ => evLoop (evC T (env k) k syntax_Right.u3.c) [3, 17, 18, 19] j ρ K) K)
      simp only [seqK_exit, seqK_ret, seqK_pan, seqK_normal, syntax_Right.u4.okl k K j] at h
      exact (evLoop_step (by kernel_rfl) h).trans (syntax_Right.u4.ls k (fun y0 => K .ret (frameL [(2, .bool y0)])) (fun y0 => K (.exit 0) (frameL [(3, .slice y0)])) j x0 x1 x2 x3).symm
theorem syntax_Right.u4.ok (k : Nat) (x0 : Sl) (x1 : Sl) (x2 : Int) (x3 : Int) (K : Ex → Frame → M α) :
    evC T (env k) k syntax_Right.u4.c (frameL [(3, .slice x0), (17, .slice x1), (18, .int .i64 x2), (19, .int .i64 x3)]) K =
      syntax_Right.u4.f k x0 x1 x2 x3 (fun y0 => K .ret (frameL [(2, .bool y0)])) (fun y0 => K (.exit 0) (frameL [(3, .slice y0)])) :=
  evC_loop.trans <| (evLoop_keep (body := evC T (env k) k syntax_Right.u3.c) (keep := [3, 17, 18, 19]) (ρ := (frameL [(3, .slice x0), (17, .slice x1), (18, .int .i64 x2), (19, .int .i64 x3)])) (ρ' := (frameL [(3, .slice x0), (17, .slice x1), (18, .int .i64 x2), (19, .int .i64 x3)])) (by kernel_rfl) k K).trans (syntax_Right.u4.okl k K k x0 x1 x2 x3)
theorem syntax_Right.u5.ok (k : Nat) (x0 : Sl) (x1 : Sl) (x2 : Int) (x3 : Int) (K : Ex → Frame → M α) :
    evC T (env k) k syntax_Right.u5.c (frameL [(3, .slice x0), (17, .slice x1), (18, .int .i64 x2), (19, .int .i64 x3)]) K =
      syntax_Right.u5.f k x0 x1 x2 x3 (fun y0 => K .normal (frameL [(3, .slice y0)])) (fun y0 => K .ret (frameL [(2, .bool y0)])) :=
  (evC_block.trans (syntax_Right.u4.ok k x0 x1 x2 x3 (blockK 0 K))).trans (by kernel_rfl)
theorem syntax_Right.u6.ok (k : Nat) (x0 : Sl) (x1 : Sl) (K : Ex → Frame → M α) :
    evC T (env k) k syntax_Right.u6.c (frameL [(0, .slice x0), (3, .slice x1)]) K =
      syntax_Right.u6.f k x0 x1 (fun y0 => K .normal (frameL [(3, .slice y0)])) (fun y0 => K .ret (frameL [(2, .bool y0)])) :=
  (syntax_Right.u2.ok k x0 x1 syntax_Right.u5.c K).trans
    (congrArg (fun z => syntax_Right.u2.f k x0 x1 z) (funext fun y0 => (funext fun y1 => (funext fun y2 => (funext fun y3 => syntax_Right.u5.ok k y0 y1 y2 y3 K)))))
theorem syntax_Right.u7.ok (k : Nat) (x0 : Sl) (K : Ex → Frame → M α) :
    evC T (env k) k syntax_Right.u7.c (frameL [(3, .slice x0)]) K =
      syntax_Right.u7.f k x0 (fun y0 => K .ret (frameL [(2, .bool y0)])) := by kernel_rfl
theorem syntax_Right.u8.ok (k : Nat) (x0 : Sl) (x1 : Sl) (K : Ex → Frame → M α) :
    evC T (env k) k syntax_Right.u8.c (frameL [(0, .slice x0), (3, .slice x1)]) K =
      syntax_Right.u8.f k x0 x1 (fun y0 => K .ret (frameL [(2, .bool y0)])) :=
  by
    have h := syntax_Right.u6.ok k x0 x1 (seqK (fun ρ => evC T (env k) k syntax_Right.u7.c ρ K) K)
    simp only [seqK_normal, seqK_exit, seqK_ret, seqK_pan, syntax_Right.u7.ok] at h
    exact evC_seq_of h
theorem syntax_Right.u9.ok (k : Nat) (x0 : Sl) (K : Ex → Frame → M α) :
    evC T (env k) k syntax_Right.u9.c (frameL [(0, .slice x0)]) K =
      syntax_Right.u9.f k x0 (fun y0 => K .ret (frameL [(2, .bool y0)])) :=
  (syntax_Right.u1.ok k x0 syntax_Right.u8.c K).trans
    (congrArg (fun z => syntax_Right.u1.f k x0 z (fun y0 => K .ret (frameL [(2, .bool y0)]))) (funext fun y0 => (funext fun y1 => syntax_Right.u8.ok k y0 y1 K)))
theorem syntax_Right.ok (k : Nat) (x0 : Sl) (κ : Res → M α) :
    evF T (env k) k syntax_Right.c syntax_Right.res [.slice x0] κ = syntax_Right.f (k + 1) x0 (fun o0 => κ (.ret (.bool o0))) :=
  (syntax_Right.u9.ok k x0 (retK T syntax_Right.res κ)).trans (by kernel_rfl)
theorem syntax_Right.code : syntax_Right.c.code = bodyOf Tryd.f8 := by kernel_rfl
noncomputable def strings_Builder_WriteString.c : IC := strings_Builder_WriteString.u1.c
noncomputable def strings_Builder_WriteString.res : List ResultVar := [(.tmp 4), (.tmp 5)]
theorem strings_Builder_WriteString.u1.ok (k : Nat) (x0 : Ad) (x1 : List UInt8) (K : Ex → Frame → M α) :
    evC T (env k) k strings_Builder_WriteString.u1.c (frameL [(0, .ptr (some x0)), (1, .str x1)]) K =
      strings_Builder_WriteString.u1.f k x0 x1 (fun y0 => K .ret (frameL [(4, .int .i64 y0), (5, .nilIface)])) := by kernel_rfl
theorem strings_Builder_WriteString.ok (k : Nat) (x0 : Ad) (x1 : List UInt8) (κ : Res → M α) :
    evF T (env k) k strings_Builder_WriteString.c strings_Builder_WriteString.res [.ptr (some x0), .str x1] κ = strings_Builder_WriteString.f (k + 1) x0 x1 (fun o0 o1 => κ (.ret (.tuple [.int .i64 o0, o1]))) :=
  (strings_Builder_WriteString.u1.ok k x0 x1 (retK T strings_Builder_WriteString.res κ)).trans (by kernel_rfl)
theorem strings_Builder_WriteString.code : strings_Builder_WriteString.c.code = bodyOf Tryd.f25 := by kernel_rfl
end
end Go.Ab.S6
