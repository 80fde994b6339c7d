import Derived.Test.YtmanohnlcedeaaaAb19
import Derived.Test.YtmanohnlcedeaaaAb20
import Derived.Shelf.Strings.Builder1
import Derived.Test.YtmanohnlcedeaaaProg
import Derived.KernelRfl
namespace Go.Ab.S4
section
variable {α : Type}
open Go.Proofs
set_option linter.unusedVariables false
set_option linter.unusedSimpArgs false
def opAt (f : Func) (id i : Nat) : Oper := (opsOf f id).getD i default
noncomputable def bytealg_IndexByteString.f : Nat → List UInt8 → Int → (Int → M α) → M α
  | 0, _, _, _ => fail
  | _ + 1, s, c, ret => ret (indexByte s c)
noncomputable def stringslite_IndexByte.u1.f (k : Nat) (x0 : List UInt8) (x1 : Int) (kr : Int → M α) : M α :=
  bytealg_IndexByteString.f k x0 x1 fun r4 =>
  kr r4
noncomputable def stringslite_IndexByte.u1.c : IC := (.seq (.ops 0 (opsOf Try.f64 0)) (.seq (.ops 1 (opsOf Try.f64 1)) (.ret [4])))
noncomputable def stringslite_IndexByte.f : Nat → List UInt8 → Int → (Int → M α) → M α
  | 0, _, _, _ => fail
  | k + 1, x0, x1, ret =>
    stringslite_IndexByte.u1.f k x0 x1 (fun y0 =>
      ret y0)
noncomputable def strings_IndexByte.u1.f (k : Nat) (x0 : List UInt8) (x1 : Int) (kr : Int → M α) : M α :=
  stringslite_IndexByte.f k x0 x1 fun r4 =>
  kr r4
noncomputable def strings_IndexByte.u1.c : IC := (.seq (.ops 0 (opsOf Try.f50 0)) (.seq (.ops 1 (opsOf Try.f50 1)) (.ret [4])))
noncomputable def strings_IndexByte.f : Nat → List UInt8 → Int → (Int → M α) → M α
  | 0, _, _, _ => fail
  | k + 1, x0, x1, ret =>
    strings_IndexByte.u1.f k x0 x1 (fun y0 =>
      ret y0)
noncomputable def scan_kind.u1.f (k : Nat) (x0 : Int) (kr : Int → M α) : M α :=
  cond (decide (x0 = 10)) (
    kr 1) (
    cond (decide (97 ≤ x0)) (
      cond (decide (x0 ≤ 122)) (
        kr 2) (
        cond (decide (65 ≤ x0)) (
          cond (decide (x0 ≤ 90)) (
            kr 3) (
            cond (decide (48 ≤ x0)) (
              cond (decide (x0 ≤ 57)) (
                kr 4) (
                cond (decide (32 < x0)) (
                  cond (decide (x0 < 127)) (
                    cond (!(decide (x0 = 95))) (
                      kr 5) (
                      kr 0)) (
                    kr 0)) (
                  kr 0))) (
              cond (decide (32 < x0)) (
                cond (decide (x0 < 127)) (
                  cond (!(decide (x0 = 95))) (
                    kr 5) (
                    kr 0)) (
                  kr 0)) (
                kr 0)))) (
          cond (decide (48 ≤ x0)) (
            cond (decide (x0 ≤ 57)) (
              kr 4) (
              cond (decide (32 < x0)) (
                cond (decide (x0 < 127)) (
                  cond (!(decide (x0 = 95))) (
                    kr 5) (
                    kr 0)) (
                  kr 0)) (
                kr 0))) (
            cond (decide (32 < x0)) (
              cond (decide (x0 < 127)) (
                cond (!(decide (x0 = 95))) (
                  kr 5) (
                  kr 0)) (
                kr 0)) (
              kr 0))))) (
      cond (decide (65 ≤ x0)) (
        cond (decide (x0 ≤ 90)) (
          kr 3) (
          cond (decide (48 ≤ x0)) (
            cond (decide (x0 ≤ 57)) (
              kr 4) (
              cond (decide (32 < x0)) (
                cond (decide (x0 < 127)) (
                  cond (!(decide (x0 = 95))) (
                    kr 5) (
                    kr 0)) (
                  kr 0)) (
                kr 0))) (
            cond (decide (32 < x0)) (
              cond (decide (x0 < 127)) (
                cond (!(decide (x0 = 95))) (
                  kr 5) (
                  kr 0)) (
                kr 0)) (
              kr 0)))) (
        cond (decide (48 ≤ x0)) (
          cond (decide (x0 ≤ 57)) (
            kr 4) (
            cond (decide (32 < x0)) (
              cond (decide (x0 < 127)) (
                cond (!(decide (x0 = 95))) (
                  kr 5) (
                  kr 0)) (
                kr 0)) (
              kr 0))) (
          cond (decide (32 < x0)) (
            cond (decide (x0 < 127)) (
              cond (!(decide (x0 = 95))) (
                kr 5) (
                kr 0)) (
              kr 0)) (
            kr 0)))))
noncomputable def scan_kind.u1.c : IC := (.seq (.ops 0 (opsOf Try.f65 0)) (.seq (.block 0 (.seq (.ops 1 (opsOf Try.f65 1)) (.cond (.tmp 3) (.seq (.ops 2 (opsOf Try.f65 2)) (.ret [2])) (.seq (.ops 3 (opsOf Try.f65 3)) (.cond (.tmp 6) (.seq (.ops 4 (opsOf Try.f65 4)) (.ret [2])) (.seq (.ops 5 (opsOf Try.f65 5)) (.cond (.tmp 13) (.seq (.ops 6 (opsOf Try.f65 6)) (.ret [2])) (.seq (.ops 7 (opsOf Try.f65 7)) (.cond (.tmp 20) (.seq (.ops 8 (opsOf Try.f65 8)) (.ret [2])) (.seq (.ops 9 (opsOf Try.f65 9)) (.cond (.tmp 27) (.seq (.ops 10 (opsOf Try.f65 10)) (.ret [2])) .skip))))))))))) (.seq (.ops 11 (opsOf Try.f65 11)) (.ret [2]))))
noncomputable def scan_kind.f : Nat → Int → (Int → M α) → M α
  | 0, _, _ => fail
  | k + 1, x0, ret =>
    scan_kind.u1.f k x0 (fun y0 =>
      ret y0)
noncomputable def scan_long.u1.f (k : Nat) (x0 : Int) (x1 : List UInt8) (kn : Int → List UInt8 → Int → M α) : M α :=
  kn x0 x1 1
noncomputable def scan_long.u1.c (R : IC) : IC := (.seq (.ops 0 (opsOf Try.f66 0)) (.seq (.cut [0, 1, 5] (.ops 1 (opsOf Try.f66 1))) R))
noncomputable def scan_long.u2.f (k : Nat) (x0 : Int) (x1 : List UInt8) (x2 : Int) (kn : List UInt8 → Int → Int → M α) : M α :=
  kn x1 x2 x0
noncomputable def scan_long.u2.c (R : IC) : IC := (.seq (.cut [1, 5, 6] (.ops 2 (opsOf Try.f66 2))) R)
noncomputable def scan_long.u3.f (k : Nat) (x0 : List UInt8) (x1 : Int) (x2 : Int) (kn : List UInt8 → Int → Int → Bool → M α) : M α :=
  kn x0 x1 x2 (decide (x2 = 4))
noncomputable def scan_long.u3.c (R : IC) : IC := (.seq (.cut [1, 5, 6, 7] (.ops 3 (opsOf Try.f66 3))) R)
noncomputable def scan_long.u4.f (k : Nat) (x0 : List UInt8) (x1 : Int) (kn : List UInt8 → Int → M α) (kx1 : Int → M α) : M α :=
  cond (decide (x1 < (x0.length : Int))) (
    idxStr x0 x1 fun c4 =>
    cond (decide (48 ≤ c4)) (
      idxStr x0 x1 fun c5 =>
      cond (decide (c5 ≤ 57)) (
        kn x0 (w64 (x1 + 1))) (
        kx1 x1)) (
      kx1 x1)) (
    kx1 x1)
noncomputable def scan_long.u4.c : IC := (.seq (.seq (.ops 4 (opsOf Try.f66 4)) (.cond (.tmp 24) .skip (.exit 1 [5]))) (.cut [1, 5] (.block 2 (.ops 5 (opsOf Try.f66 5)))))
noncomputable def scan_long.u5.l (k : Nat) (kx1 : Int → M α) : Nat → List UInt8 → Int → M α
  | 0, _, _ => fail
  | j + 1, x0, x1 =>
    scan_long.u4.f k x0 x1 (fun y0 y1 => scan_long.u5.l k kx1 j y0 y1) kx1
noncomputable abbrev scan_long.u5.f (k : Nat) (x0 : List UInt8) (x1 : Int) (x2 : Int) (x3 : Bool) (kx1 : Int → M α) : M α :=
  scan_long.u5.l k kx1 k x0 x1
noncomputable def scan_long.u5.c : IC := .loop [1, 5] scan_long.u4.c
noncomputable abbrev scan_long.u6.f (k : Nat) (x0 : List UInt8) (x1 : Int) (x2 : Int) (x3 : Bool) (kn : Int → M α) : M α :=
  scan_long.u5.f k x0 x1 x2 x3 (fun y0 => kn y0)
noncomputable def scan_long.u6.c : IC := .block 1 scan_long.u5.c
noncomputable def scan_long.u7.f (k : Nat) (x0 : List UInt8) (x1 : Int) (x2 : Int) (x3 : Bool) (kn : List UInt8 → Int → Bool → M α) : M α :=
  cond (decide (x2 = 2)) (
    kn x0 x1 (decide (x2 = 2))) (
    kn x0 x1 (decide (x2 = 3)))
noncomputable def scan_long.u7.c (R : IC) : IC := (.seq (.cut [1, 5, 27] (.seq (.ops 6 (opsOf Try.f66 6)) (.cond (.tmp 27) .skip (.ops 7 (opsOf Try.f66 7))))) R)
noncomputable def scan_long.u8.f (k : Nat) (x0 : List UInt8) (x1 : Int) (kn : List UInt8 → Int → M α) (kx3 : Int → M α) : M α :=
  cond (decide (x1 < (x0.length : Int))) (
    idxStr x0 x1 fun c4 =>
    cond (decide (c4 = 95)) (
      kn x0 (w64 (x1 + 1))) (
      idxStr x0 x1 fun c5 =>
      cond (decide (97 ≤ c5)) (
        idxStr x0 x1 fun c6 =>
        cond (decide (c6 ≤ 122)) (
          kn x0 (w64 (x1 + 1))) (
          idxStr x0 x1 fun c7 =>
          cond (decide (65 ≤ c7)) (
            idxStr x0 x1 fun c8 =>
            cond (decide (c8 ≤ 90)) (
              kn x0 (w64 (x1 + 1))) (
              idxStr x0 x1 fun c9 =>
              cond (decide (48 ≤ c9)) (
                idxStr x0 x1 fun c10 =>
                cond (decide (c10 ≤ 57)) (
                  kn x0 (w64 (x1 + 1))) (
                  kx3 x1)) (
                kx3 x1))) (
            idxStr x0 x1 fun c11 =>
            cond (decide (48 ≤ c11)) (
              idxStr x0 x1 fun c12 =>
              cond (decide (c12 ≤ 57)) (
                kn x0 (w64 (x1 + 1))) (
                kx3 x1)) (
              kx3 x1)))) (
        idxStr x0 x1 fun c13 =>
        cond (decide (65 ≤ c13)) (
          idxStr x0 x1 fun c14 =>
          cond (decide (c14 ≤ 90)) (
            kn x0 (w64 (x1 + 1))) (
            idxStr x0 x1 fun c15 =>
            cond (decide (48 ≤ c15)) (
              idxStr x0 x1 fun c16 =>
              cond (decide (c16 ≤ 57)) (
                kn x0 (w64 (x1 + 1))) (
                kx3 x1)) (
              kx3 x1))) (
          idxStr x0 x1 fun c17 =>
          cond (decide (48 ≤ c17)) (
            idxStr x0 x1 fun c18 =>
            cond (decide (c18 ≤ 57)) (
              kn x0 (w64 (x1 + 1))) (
              kx3 x1)) (
            kx3 x1))))) (
    kx3 x1)
noncomputable def scan_long.u8.c : IC := (.seq (.seq (.ops 8 (opsOf Try.f66 8)) (.cond (.tmp 75) .skip (.exit 3 [5]))) (.cut [1, 5] (.block 4 (.ops 9 (opsOf Try.f66 9)))))
noncomputable def scan_long.u9.l (k : Nat) (kx3 : Int → M α) : Nat → List UInt8 → Int → M α
  | 0, _, _ => fail
  | j + 1, x0, x1 =>
    scan_long.u8.f k x0 x1 (fun y0 y1 => scan_long.u9.l k kx3 j y0 y1) kx3
noncomputable abbrev scan_long.u9.f (k : Nat) (x0 : List UInt8) (x1 : Int) (x2 : Bool) (kx3 : Int → M α) : M α :=
  scan_long.u9.l k kx3 k x0 x1
noncomputable def scan_long.u9.c : IC := .loop [1, 5] scan_long.u8.c
noncomputable abbrev scan_long.u10.f (k : Nat) (x0 : List UInt8) (x1 : Int) (x2 : Bool) (kn : Int → M α) : M α :=
  scan_long.u9.f k x0 x1 x2 (fun y0 => kn y0)
noncomputable def scan_long.u10.c : IC := .block 3 scan_long.u9.c
noncomputable def scan_long.u11.f (k : Nat) (x0 : List UInt8) (x1 : Int) (x2 : Bool) (kn : Int → M α) : M α :=
  kn x1
noncomputable def scan_long.u11.c : IC := (.cut [5] .skip)
noncomputable abbrev scan_long.u12.f (k : Nat) (x0 : List UInt8) (x1 : Int) (x2 : Bool) (kn : Int → M α) : M α :=
  cond x2 (
    scan_long.u10.f k x0 x1 x2 kn) (
    scan_long.u11.f k x0 x1 x2 kn)
noncomputable def scan_long.u12.c : IC := .cond (.tmp 27) scan_long.u10.c scan_long.u11.c
noncomputable abbrev scan_long.u13.f (k : Nat) (x0 : List UInt8) (x1 : Int) (x2 : Int) (x3 : Bool) (kn : Int → M α) : M α :=
  scan_long.u7.f k x0 x1 x2 x3 (fun y0 y1 y2 => scan_long.u12.f k y0 y1 y2 kn)
noncomputable def scan_long.u13.c : IC := scan_long.u7.c scan_long.u12.c
noncomputable abbrev scan_long.u14.f (k : Nat) (x0 : List UInt8) (x1 : Int) (x2 : Int) (x3 : Bool) (kn : Int → M α) : M α :=
  cond x3 (
    scan_long.u6.f k x0 x1 x2 x3 kn) (
    scan_long.u13.f k x0 x1 x2 x3 kn)
noncomputable def scan_long.u14.c : IC := .cond (.tmp 7) scan_long.u6.c scan_long.u13.c
noncomputable abbrev scan_long.u15.f (k : Nat) (x0 : List UInt8) (x1 : Int) (x2 : Int) (kn : Int → M α) : M α :=
  scan_long.u3.f k x0 x1 x2 (fun y0 y1 y2 y3 => scan_long.u14.f k y0 y1 y2 y3 kn)
noncomputable def scan_long.u15.c : IC := scan_long.u3.c scan_long.u14.c
noncomputable abbrev scan_long.u16.f (k : Nat) (x0 : List UInt8) (x1 : Int) (x2 : Int) (kn : Int → M α) : M α :=
  scan_long.u15.f k x0 x1 x2 (fun y0 => kn y0)
noncomputable def scan_long.u16.c : IC := .block 0 scan_long.u15.c
noncomputable abbrev scan_long.u17.f (k : Nat) (x0 : Int) (x1 : List UInt8) (x2 : Int) (kn : Int → M α) : M α :=
  scan_long.u2.f k x0 x1 x2 (fun y0 y1 y2 => scan_long.u16.f k y0 y1 y2 kn)
noncomputable def scan_long.u17.c : IC := scan_long.u2.c scan_long.u16.c
noncomputable def scan_long.u18.f (k : Nat) (x0 : Int) (kr : Int → M α) : M α :=
  kr x0
noncomputable def scan_long.u18.c : IC := (.seq (.ops 10 (opsOf Try.f66 10)) (.ret [4]))
noncomputable abbrev scan_long.u19.f (k : Nat) (x0 : Int) (x1 : List UInt8) (x2 : Int) (kr : Int → M α) : M α :=
  scan_long.u17.f k x0 x1 x2 (fun y0 => scan_long.u18.f k y0 kr)
noncomputable def scan_long.u19.c : IC := (.seq scan_long.u17.c scan_long.u18.c)
noncomputable abbrev scan_long.u20.f (k : Nat) (x0 : Int) (x1 : List UInt8) (kr : Int → M α) : M α :=
  scan_long.u1.f k x0 x1 (fun y0 y1 y2 => scan_long.u19.f k y0 y1 y2 kr)
noncomputable def scan_long.u20.c : IC := scan_long.u1.c scan_long.u19.c
noncomputable def scan_long.f : Nat → Int → List UInt8 → (Int → M α) → M α
  | 0, _, _, _ => fail
  | k + 1, x0, x1, ret =>
    scan_long.u20.f k x0 x1 (fun y0 =>
      ret y0)
noncomputable def scan_value.u1.f (k : Nat) (x0 : List UInt8) (kn : List UInt8 → M α) (kr : Int → Bool → M α) : M α :=
  cond (decide (4 < (x0.length : Int))) (
    kr 0 false) (
    cond (decide (1 < (x0.length : Int))) (
      idxStr x0 0 fun c3 =>
      cond (decide (c3 = 48)) (
        kr 0 false) (
        kn x0)) (
      kn x0))
noncomputable def scan_value.u1.c (R : IC) : IC := (.seq (.ops 0 (opsOf Try.f67 0)) (.seq (.cut [0] (.seq (.ops 1 (opsOf Try.f67 1)) (.cond (.tmp 18) (.seq (.ops 2 (opsOf Try.f67 2)) (.ret [2, 3])) .skip))) R))
noncomputable def scan_value.u2.f (k : Nat) (x0 : List UInt8) (kn : List UInt8 → Int → M α) : M α :=
  kn x0 0
noncomputable def scan_value.u2.c (R : IC) : IC := (.seq (.cut [0, 4] (.ops 3 (opsOf Try.f67 3))) R)
noncomputable def scan_value.u3.f (k : Nat) (x0 : List UInt8) (x1 : Int) (kn : List UInt8 → Int → Int → Int → M α) : M α :=
  kn x0 x1 (x0.length : Int) 0
noncomputable def scan_value.u3.c (R : IC) : IC := (.seq (.cut [0, 4, 20, 21] (.ops 4 (opsOf Try.f67 4))) R)
noncomputable def scan_value.u4.f (k : Nat) (x0 : List UInt8) (x1 : Int) (x2 : Int) (x3 : Int) (kn : List UInt8 → Int → Int → Int → M α) (kx0 : Int → M α) : M α :=
  cond (decide (x3 < x2)) (
    idxStr x0 x3 fun c6 =>
    kn x0 (w64 ((w64 (10 * x1)) + (w64 (IntKind.wrap .u8 (c6 - 48))))) x2 (w64 (x3 + 1))) (
    kx0 x1)
noncomputable def scan_value.u4.c : IC := (.seq (.ops 5 (opsOf Try.f67 5)) (.seq (.cond (.tmp 22) .skip (.exit 0 [4])) (.seq (.block 1 (.seq (.ops 6 (opsOf Try.f67 6)) (.ops 7 (opsOf Try.f67 7)))) (.cut [0, 4, 20, 21] (.ops 8 (opsOf Try.f67 8))))))
noncomputable def scan_value.u5.l (k : Nat) (kx0 : Int → M α) : Nat → List UInt8 → Int → Int → Int → M α
  | 0, _, _, _, _ => fail
  | j + 1, x0, x1, x2, x3 =>
    scan_value.u4.f k x0 x1 x2 x3 (fun y0 y1 y2 y3 => scan_value.u5.l k kx0 j y0 y1 y2 y3) kx0
noncomputable abbrev scan_value.u5.f (k : Nat) (x0 : List UInt8) (x1 : Int) (x2 : Int) (x3 : Int) (kx0 : Int → M α) : M α :=
  scan_value.u5.l k kx0 k x0 x1 x2 x3
noncomputable def scan_value.u5.c : IC := .loop [0, 4, 20, 21] scan_value.u4.c
noncomputable abbrev scan_value.u6.f (k : Nat) (x0 : List UInt8) (x1 : Int) (x2 : Int) (x3 : Int) (kn : Int → M α) : M α :=
  scan_value.u5.f k x0 x1 x2 x3 (fun y0 => kn y0)
noncomputable def scan_value.u6.c : IC := .block 0 scan_value.u5.c
noncomputable abbrev scan_value.u7.f (k : Nat) (x0 : List UInt8) (x1 : Int) (kn : Int → M α) : M α :=
  scan_value.u3.f k x0 x1 (fun y0 y1 y2 y3 => scan_value.u6.f k y0 y1 y2 y3 kn)
noncomputable def scan_value.u7.c : IC := scan_value.u3.c scan_value.u6.c
noncomputable def scan_value.u8.f (k : Nat) (x0 : Int) (kr : Int → Bool → M α) : M α :=
  kr x0 (decide (x0 ≤ 9999))
noncomputable def scan_value.u8.c : IC := (.seq (.ops 9 (opsOf Try.f67 9)) (.ret [2, 3]))
noncomputable abbrev scan_value.u9.f (k : Nat) (x0 : List UInt8) (x1 : Int) (kr : Int → Bool → M α) : M α :=
  scan_value.u7.f k x0 x1 (fun y0 => scan_value.u8.f k y0 kr)
noncomputable def scan_value.u9.c : IC := (.seq scan_value.u7.c scan_value.u8.c)
noncomputable abbrev scan_value.u10.f (k : Nat) (x0 : List UInt8) (kr : Int → Bool → M α) : M α :=
  scan_value.u2.f k x0 (fun y0 y1 => scan_value.u9.f k y0 y1 kr)
noncomputable def scan_value.u10.c : IC := scan_value.u2.c scan_value.u9.c
noncomputable abbrev scan_value.u11.f (k : Nat) (x0 : List UInt8) (kr : Int → Bool → M α) : M α :=
  scan_value.u1.f k x0 (fun y0 => scan_value.u10.f k y0 kr) kr
noncomputable def scan_value.u11.c : IC := scan_value.u1.c scan_value.u10.c
noncomputable def scan_value.f : Nat → List UInt8 → (Int → Bool → M α) → M α
  | 0, _, _ => fail
  | k + 1, x0, ret =>
    scan_value.u11.f k x0 (fun y0 y1 =>
      ret y0 y1)
noncomputable def scan_token.u1.f (k : Nat) (x0 : List UInt8) (x1 : Int) (kr : Ad → Int → M α) : M α :=
  new [.int .i64 0, .int .i64 0, .str [], .int .i64 0] fun x4 =>
  idxStr x0 x1 fun c5 =>
  scan_kind.f k c5 fun r6 =>
  new [.int .i64 0, .int .i64 0, .str [], .int .i64 0] fun t7 =>
  st1 (t7.add 0) (.int .i64 r6) <|
  st1 (t7.add 1) (.int .i64 x1) <|
  st1 (t7.add 2) (.str []) <|
  st1 (t7.add 3) (.int .i64 0) <|
  ldI .i64 ((t7.add 0).add 0) fun x8 =>
  cutStr x0 (some x1) none fun x9 =>
  scan_long.f k x8 x9 fun r10 =>
  cutStr x0 (some x1) (some (w64 (x1 + r10))) fun x11 =>
  st1 ((t7.add 2).add 0) (.str x11) <|
  ldI .i64 ((t7.add 0).add 0) fun x12 =>
  cond (decide (x12 = 0)) (
    ldI .i64 (t7.add 0) fun x13 =>
    ldI .i64 (t7.add 1) fun x14 =>
    ldStr (t7.add 2) fun x15 =>
    ldI .i64 (t7.add 3) fun x16 =>
    st1 (x4.add 0) (.int .i64 x13) <|
    st1 (x4.add 1) (.int .i64 x14) <|
    st1 (x4.add 2) (.str x15) <|
    st1 (x4.add 3) (.int .i64 x16) <|
    kr x4 3) (
    cond (decide (x12 = 2)) (
      cond (decide (x12 = 2)) (
        ldStr ((t7.add 2).add 0) fun x17 =>
        cond (decide (8 < (x17.length : Int))) (
          ldI .i64 (t7.add 0) fun x18 =>
          ldI .i64 (t7.add 1) fun x19 =>
          ldStr (t7.add 2) fun x20 =>
          ldI .i64 (t7.add 3) fun x21 =>
          st1 (x4.add 0) (.int .i64 x18) <|
          st1 (x4.add 1) (.int .i64 x19) <|
          st1 (x4.add 2) (.str x20) <|
          st1 (x4.add 3) (.int .i64 x21) <|
          kr x4 5) (
          ldI .i64 (t7.add 0) fun x22 =>
          ldI .i64 (t7.add 1) fun x23 =>
          ldStr (t7.add 2) fun x24 =>
          ldI .i64 (t7.add 3) fun x25 =>
          st1 (x4.add 0) (.int .i64 x22) <|
          st1 (x4.add 1) (.int .i64 x23) <|
          st1 (x4.add 2) (.str x24) <|
          st1 (x4.add 3) (.int .i64 x25) <|
          kr x4 0)) (
        cond (decide (x12 = 4)) (
          ldStr ((t7.add 2).add 0) fun x26 =>
          scan_value.f k x26 fun r27 r28 =>
          cond (!r28) (
            ldI .i64 (t7.add 0) fun x29 =>
            ldI .i64 (t7.add 1) fun x30 =>
            ldStr (t7.add 2) fun x31 =>
            ldI .i64 (t7.add 3) fun x32 =>
            st1 (x4.add 0) (.int .i64 x29) <|
            st1 (x4.add 1) (.int .i64 x30) <|
            st1 (x4.add 2) (.str x31) <|
            st1 (x4.add 3) (.int .i64 x32) <|
            kr x4 4) (
            st1 ((t7.add 3).add 0) (.int .i64 r27) <|
            ldI .i64 (t7.add 0) fun x33 =>
            ldI .i64 (t7.add 1) fun x34 =>
            ldStr (t7.add 2) fun x35 =>
            ldI .i64 (t7.add 3) fun x36 =>
            st1 (x4.add 0) (.int .i64 x33) <|
            st1 (x4.add 1) (.int .i64 x34) <|
            st1 (x4.add 2) (.str x35) <|
            st1 (x4.add 3) (.int .i64 x36) <|
            kr x4 0)) (
          ldI .i64 (t7.add 0) fun x37 =>
          ldI .i64 (t7.add 1) fun x38 =>
          ldStr (t7.add 2) fun x39 =>
          ldI .i64 (t7.add 3) fun x40 =>
          st1 (x4.add 0) (.int .i64 x37) <|
          st1 (x4.add 1) (.int .i64 x38) <|
          st1 (x4.add 2) (.str x39) <|
          st1 (x4.add 3) (.int .i64 x40) <|
          kr x4 0))) (
      cond (decide (x12 = 3)) (
        ldStr ((t7.add 2).add 0) fun x41 =>
        cond (decide (8 < (x41.length : Int))) (
          ldI .i64 (t7.add 0) fun x42 =>
          ldI .i64 (t7.add 1) fun x43 =>
          ldStr (t7.add 2) fun x44 =>
          ldI .i64 (t7.add 3) fun x45 =>
          st1 (x4.add 0) (.int .i64 x42) <|
          st1 (x4.add 1) (.int .i64 x43) <|
          st1 (x4.add 2) (.str x44) <|
          st1 (x4.add 3) (.int .i64 x45) <|
          kr x4 5) (
          ldI .i64 (t7.add 0) fun x46 =>
          ldI .i64 (t7.add 1) fun x47 =>
          ldStr (t7.add 2) fun x48 =>
          ldI .i64 (t7.add 3) fun x49 =>
          st1 (x4.add 0) (.int .i64 x46) <|
          st1 (x4.add 1) (.int .i64 x47) <|
          st1 (x4.add 2) (.str x48) <|
          st1 (x4.add 3) (.int .i64 x49) <|
          kr x4 0)) (
        cond (decide (x12 = 4)) (
          ldStr ((t7.add 2).add 0) fun x50 =>
          scan_value.f k x50 fun r51 r52 =>
          cond (!r52) (
            ldI .i64 (t7.add 0) fun x53 =>
            ldI .i64 (t7.add 1) fun x54 =>
            ldStr (t7.add 2) fun x55 =>
            ldI .i64 (t7.add 3) fun x56 =>
            st1 (x4.add 0) (.int .i64 x53) <|
            st1 (x4.add 1) (.int .i64 x54) <|
            st1 (x4.add 2) (.str x55) <|
            st1 (x4.add 3) (.int .i64 x56) <|
            kr x4 4) (
            st1 ((t7.add 3).add 0) (.int .i64 r51) <|
            ldI .i64 (t7.add 0) fun x57 =>
            ldI .i64 (t7.add 1) fun x58 =>
            ldStr (t7.add 2) fun x59 =>
            ldI .i64 (t7.add 3) fun x60 =>
            st1 (x4.add 0) (.int .i64 x57) <|
            st1 (x4.add 1) (.int .i64 x58) <|
            st1 (x4.add 2) (.str x59) <|
            st1 (x4.add 3) (.int .i64 x60) <|
            kr x4 0)) (
          ldI .i64 (t7.add 0) fun x61 =>
          ldI .i64 (t7.add 1) fun x62 =>
          ldStr (t7.add 2) fun x63 =>
          ldI .i64 (t7.add 3) fun x64 =>
          st1 (x4.add 0) (.int .i64 x61) <|
          st1 (x4.add 1) (.int .i64 x62) <|
          st1 (x4.add 2) (.str x63) <|
          st1 (x4.add 3) (.int .i64 x64) <|
          kr x4 0))))
noncomputable def scan_token.u1.c : IC := (.seq (.ops 0 (opsOf Try.f51 0)) (.seq (.ops 1 (opsOf Try.f51 1)) (.seq (.drawn 2 (opsOf Try.f51 2) true [.op 0, .op 1, .op 2, .op 3, .op 4, .op 5, .op 6, .op 7, .op 8, .op 9, .op 10, .op 11, .op 12]) (.seq (.seq (.ops 3 (opsOf Try.f51 3)) (.block 0 (.seq (.ops 4 (opsOf Try.f51 4)) (.cond (.tmp 29) (.seq (.ops 5 (opsOf Try.f51 5)) (.ret [4, 5])) (.seq (.seq (.ops 6 (opsOf Try.f51 6)) (.cond (.tmp 32) .skip (.ops 7 (opsOf Try.f51 7)))) (.cond (.tmp 32) (.seq (.ops 8 (opsOf Try.f51 8)) (.cond (.tmp 38) (.seq (.ops 9 (opsOf Try.f51 9)) (.ret [4, 5])) .skip)) (.seq (.ops 10 (opsOf Try.f51 10)) (.cond (.tmp 40) (.seq (.ops 11 (opsOf Try.f51 11)) (.seq (.seq (.ops 12 (opsOf Try.f51 12)) (.cond (.tmp 49) (.seq (.ops 13 (opsOf Try.f51 13)) (.ret [4, 5])) .skip)) (.ops 14 (opsOf Try.f51 14)))) .skip)))))))) (.seq (.ops 15 (opsOf Try.f51 15)) (.ret [4, 5]))))))
noncomputable def scan_token.f : Nat → List UInt8 → Int → (Int → Int → List UInt8 → Int → Int → M α) → M α
  | 0, _, _, _ => fail
  | k + 1, x0, x1, ret =>
    scan_token.u1.f k x0 x1 (fun y0 y1 =>
      ldI .i64 (y0.add 0) fun o501 =>
      ldI .i64 (y0.add 1) fun o502 =>
      ldStr (y0.add 2) fun o503 =>
      ldI .i64 (y0.add 3) fun o504 =>
      ret o501 o502 o503 o504 y1)
noncomputable def scan_All.u1.f (k : Nat) (x0 : List UInt8) (kn : List UInt8 → Sl → M α) (kr : Sl → Ad → M α) : M α :=
  cond (decide (262144 < (x0.length : Int))) (
    new [.int .i64 262144, .int .i64 2] fun x3 =>
    kr Sl.nil x3) (
    kn x0 Sl.nil)
noncomputable def scan_All.u1.c (R : IC) : IC := (.seq (.ops 0 (opsOf Try.f34 0)) (.seq (.seq (.ops 1 (opsOf Try.f34 1)) (.cond (.tmp 12) (.seq (.ops 2 (opsOf Try.f34 2)) (.ret [2, 3])) .skip)) (.seq (.cut [0, 4] (.ops 3 (opsOf Try.f34 3))) R)))
noncomputable def scan_All.u2.f (k : Nat) (x0 : List UInt8) (x1 : Sl) (kn : List UInt8 → Sl → Int → M α) : M α :=
  kn x0 x1 0
noncomputable def scan_All.u2.c (R : IC) : IC := (.seq (.cut [0, 4, 5] (.ops 4 (opsOf Try.f34 4))) R)
noncomputable def scan_All.u3.f (k : Nat) (x0 : List UInt8) (x1 : Sl) (x2 : Int) (kn : List UInt8 → Sl → Int → M α) (kr : Sl → Ad → M α) (kx0 : List UInt8 → Sl → M α) : M α :=
  cond (decide (x2 < (x0.length : Int))) (
    idxStr x0 x2 fun c5 =>
    cond (decide (c5 = 32)) (
      kn x0 x1 (w64 (x2 + 1))) (
      cond (decide (c5 = 9)) (
        kn x0 x1 (w64 (x2 + 1))) (
        cond (decide (c5 = 35)) (
          cutStr x0 (some x2) none fun x6 =>
          strings_IndexByte.f k x6 10 fun r7 =>
          cond (decide (r7 < 0)) (
            kn x0 x1 (w64 (x2 + (w64 ((x0.length : Int) - x2))))) (
            kn x0 x1 (w64 (x2 + r7)))) (
          scan_token.f k x0 x2 fun r8 r9 r10 r11 r12 =>
          new [.int .i64 0, .int .i64 0, .str [], .int .i64 0] fun t13 =>
          st1 (t13.add 0) (.int .i64 r8) <|
          st1 (t13.add 1) (.int .i64 r9) <|
          st1 (t13.add 2) (.str r10) <|
          st1 (t13.add 3) (.int .i64 r11) <|
          cond (!(decide (r12 = 0))) (
            new [.int .i64 x2, .int .i64 r12] fun x14 =>
            kr Sl.nil x14) (
            ldI .i64 (t13.add 0) fun x15 =>
            ldI .i64 (t13.add 1) fun x16 =>
            ldStr (t13.add 2) fun x17 =>
            ldI .i64 (t13.add 3) fun x18 =>
            new [.int .i64 x15, .int .i64 x16, .str x17, .int .i64 x18] fun r19 =>
            appRow x1 4 40 (⟨some r19, 1, 1, none⟩ : Sl) fun x20 =>
            ldStr ((t13.add 2).add 0) fun x21 =>
            kn x0 x20 (w64 (x2 + (x21.length : Int)))))))) (
    kx0 x0 x1)
noncomputable def scan_All.u3.c : IC := (.seq (.seq (.ops 5 (opsOf Try.f34 5)) (.cond (.tmp 19) .skip (.exit 0 [0, 4]))) (.cut [0, 4, 5] (.block 1 (.seq (.ops 6 (opsOf Try.f34 6)) (.block 2 (.seq (.ops 12 (opsOf Try.f34 12)) (.cond (.tmp 45) (.ops 13 (opsOf Try.f34 13)) (.seq (.ops 14 (opsOf Try.f34 14)) (.cond (.tmp 54) (.seq (.ops 15 (opsOf Try.f34 15)) (.seq (.seq (.ops 16 (opsOf Try.f34 16)) (.cond (.tmp 62) (.ops 17 (opsOf Try.f34 17)) .skip)) (.ops 18 (opsOf Try.f34 18)))) (.seq (.ops 7 (opsOf Try.f34 7)) (.seq (.seq (.ops 8 (opsOf Try.f34 8)) (.cond (.tmp 30) (.seq (.ops 9 (opsOf Try.f34 9)) (.ret [2, 3])) .skip)) (.seq (.ops 10 (opsOf Try.f34 10)) (.ops 11 (opsOf Try.f34 11))))))))))))))
noncomputable def scan_All.u4.l (k : Nat) (kr : Sl → Ad → M α) (kx0 : List UInt8 → Sl → M α) : Nat → List UInt8 → Sl → Int → M α
  | 0, _, _, _ => fail
  | j + 1, x0, x1, x2 =>
    scan_All.u3.f k x0 x1 x2 (fun y0 y1 y2 => scan_All.u4.l k kr kx0 j y0 y1 y2) kr kx0
noncomputable abbrev scan_All.u4.f (k : Nat) (x0 : List UInt8) (x1 : Sl) (x2 : Int) (kr : Sl → Ad → M α) (kx0 : List UInt8 → Sl → M α) : M α :=
  scan_All.u4.l k kr kx0 k x0 x1 x2
noncomputable def scan_All.u4.c : IC := .loop [0, 4, 5] scan_All.u3.c
noncomputable abbrev scan_All.u5.f (k : Nat) (x0 : List UInt8) (x1 : Sl) (x2 : Int) (kn : List UInt8 → Sl → M α) (kr : Sl → Ad → M α) : M α :=
  scan_All.u4.f k x0 x1 x2 kr (fun y0 y1 => kn y0 y1)
noncomputable def scan_All.u5.c : IC := .block 0 scan_All.u4.c
noncomputable abbrev scan_All.u6.f (k : Nat) (x0 : List UInt8) (x1 : Sl) (kn : List UInt8 → Sl → M α) (kr : Sl → Ad → M α) : M α :=
  scan_All.u2.f k x0 x1 (fun y0 y1 y2 => scan_All.u5.f k y0 y1 y2 kn kr)
noncomputable def scan_All.u6.c : IC := scan_All.u2.c scan_All.u5.c
noncomputable def scan_All.u7.f (k : Nat) (x0 : List UInt8) (x1 : Sl) (kr : Sl → M α) : M α :=
  new [.int .i64 0, .int .i64 (x0.length : Int), .str [], .int .i64 0] fun r4 =>
  appRow x1 4 40 (⟨some r4, 1, 1, none⟩ : Sl) fun x5 =>
  kr x5
noncomputable def scan_All.u7.c : IC := (.seq (.ops 19 (opsOf Try.f34 19)) (.ret [2, 3]))
noncomputable abbrev scan_All.u8.f (k : Nat) (x0 : List UInt8) (x1 : Sl) (kr : Sl → V → M α) : M α :=
  scan_All.u6.f k x0 x1 (fun y0 y1 => scan_All.u7.f k y0 y1 (fun y0 => kr y0 .nilIface)) (fun y0 y1 => kr y0 (.iface 62 (.ptr (some y1))))
noncomputable def scan_All.u8.c : IC := (.seq scan_All.u6.c scan_All.u7.c)
noncomputable abbrev scan_All.u9.f (k : Nat) (x0 : List UInt8) (kr : Sl → V → M α) : M α :=
  scan_All.u1.f k x0 (fun y0 y1 => scan_All.u8.f k y0 y1 kr) (fun y0 y1 => kr y0 (.iface 62 (.ptr (some y1))))
noncomputable def scan_All.u9.c : IC := scan_All.u1.c scan_All.u8.c
noncomputable def scan_All.f : Nat → List UInt8 → (Sl → V → M α) → M α
  | 0, _, _ => fail
  | k + 1, x0, ret =>
    scan_All.u9.f k x0 (fun y0 y1 =>
      ret y0 y1)
noncomputable def syntax_Parse_c2.u1.f (k : Nat) (x0 : Int) (x1 : Int) (x2 : List UInt8) (x3 : Int) (kr : Bool → M α) : M α :=
  new [.int .i64 x0, .int .i64 x1, .str x2, .int .i64 x3] fun t6 =>
  ldI .i64 ((t6.add 0).add 0) fun x7 =>
  kr (decide (x7 = 1))
noncomputable def syntax_Parse_c2.u1.c : IC := (.seq (.ops 0 (opsOf Try.f37 0)) (.seq (.ops 1 (opsOf Try.f37 1)) (.ret [2])))
noncomputable def syntax_Parse_c2.f : Nat → Int → Int → List UInt8 → Int → (Bool → M α) → M α
  | 0, _, _, _, _, _ => fail
  | k + 1, x0, x1, x2, x3, ret =>
    syntax_Parse_c2.u1.f k x0 x1 x2 x3 (fun y0 =>
      ret y0)
noncomputable def slices_IndexFunc_Token_Token_37.u1.f (k : Nat) (x0 : Sl) (kn : Sl → M α) : M α :=
  kn x0
noncomputable def slices_IndexFunc_Token_Token_37.u1.c (R : IC) : IC := (.seq (.cut [0, 1] (.ops 0 (opsOf Try.f52 0))) R)
noncomputable def slices_IndexFunc_Token_Token_37.u2.f (k : Nat) (x0 : Sl) (kn : Sl → Int → Int → M α) : M α :=
  kn x0 (x0.len : Int) 0
noncomputable def slices_IndexFunc_Token_Token_37.u2.c (R : IC) : IC := (.seq (.cut [0, 1, 7, 8] (.ops 1 (opsOf Try.f52 1))) R)
noncomputable def slices_IndexFunc_Token_Token_37.u3.f (k : Nat) (x0 : Sl) (x1 : Int) (x2 : Int) (kn : Sl → Int → Int → M α) (kr : Int → M α) (kx0 : M α) : M α :=
  cond (decide (x2 < x1)) (
    idxSl x0 x2 4 fun a5 =>
    ldI .i64 (a5.add 0) fun x6 =>
    ldI .i64 (a5.add 1) fun x7 =>
    ldStr (a5.add 2) fun x8 =>
    ldI .i64 (a5.add 3) fun x9 =>
    syntax_Parse_c2.f k x6 x7 x8 x9 fun r10 =>
    cond (r10) (
      kr x2) (
      kn x0 x1 (w64 (x2 + 1)))) (
    kx0)
noncomputable def slices_IndexFunc_Token_Token_37.u3.c : IC := (.seq (.ops 2 (opsOf Try.f52 2)) (.seq (.cond (.tmp 9) .skip (.exit 0 [])) (.seq (.block 1 (.seq (.ops 3 (opsOf Try.f52 3)) (.seq (.ops 4 (opsOf Try.f52 4)) (.cond (.tmp 16) (.seq (.ops 5 (opsOf Try.f52 5)) (.ret [4])) .skip)))) (.cut [0, 1, 7, 8] (.ops 6 (opsOf Try.f52 6))))))
noncomputable def slices_IndexFunc_Token_Token_37.u4.l (k : Nat) (kr : Int → M α) (kx0 : M α) : Nat → Sl → Int → Int → M α
  | 0, _, _, _ => fail
  | j + 1, x0, x1, x2 =>
    slices_IndexFunc_Token_Token_37.u3.f k x0 x1 x2 (fun y0 y1 y2 => slices_IndexFunc_Token_Token_37.u4.l k kr kx0 j y0 y1 y2) kr kx0
noncomputable abbrev slices_IndexFunc_Token_Token_37.u4.f (k : Nat) (x0 : Sl) (x1 : Int) (x2 : Int) (kr : Int → M α) (kx0 : M α) : M α :=
  slices_IndexFunc_Token_Token_37.u4.l k kr kx0 k x0 x1 x2
noncomputable def slices_IndexFunc_Token_Token_37.u4.c : IC := .loop [0, 1, 7, 8] slices_IndexFunc_Token_Token_37.u3.c
noncomputable abbrev slices_IndexFunc_Token_Token_37.u5.f (k : Nat) (x0 : Sl) (x1 : Int) (x2 : Int) (kn : M α) (kr : Int → M α) : M α :=
  slices_IndexFunc_Token_Token_37.u4.f k x0 x1 x2 kr (kn)
noncomputable def slices_IndexFunc_Token_Token_37.u5.c : IC := .block 0 slices_IndexFunc_Token_Token_37.u4.c
noncomputable abbrev slices_IndexFunc_Token_Token_37.u6.f (k : Nat) (x0 : Sl) (kn : M α) (kr : Int → M α) : M α :=
  slices_IndexFunc_Token_Token_37.u2.f k x0 (fun y0 y1 y2 => slices_IndexFunc_Token_Token_37.u5.f k y0 y1 y2 kn kr)
noncomputable def slices_IndexFunc_Token_Token_37.u6.c : IC := slices_IndexFunc_Token_Token_37.u2.c slices_IndexFunc_Token_Token_37.u5.c
noncomputable def slices_IndexFunc_Token_Token_37.u7.f (k : Nat) (kr : Int → M α) : M α :=
  kr (-1)
noncomputable def slices_IndexFunc_Token_Token_37.u7.c : IC := (.seq (.ops 7 (opsOf Try.f52 7)) (.ret [4]))
noncomputable abbrev slices_IndexFunc_Token_Token_37.u8.f (k : Nat) (x0 : Sl) (kr : Int → M α) : M α :=
  slices_IndexFunc_Token_Token_37.u6.f k x0 (slices_IndexFunc_Token_Token_37.u7.f k kr) kr
noncomputable def slices_IndexFunc_Token_Token_37.u8.c : IC := (.seq slices_IndexFunc_Token_Token_37.u6.c slices_IndexFunc_Token_Token_37.u7.c)
noncomputable abbrev slices_IndexFunc_Token_Token_37.u9.f (k : Nat) (x0 : Sl) (kr : Int → M α) : M α :=
  slices_IndexFunc_Token_Token_37.u1.f k x0 (fun y0 => slices_IndexFunc_Token_Token_37.u8.f k y0 kr)
noncomputable def slices_IndexFunc_Token_Token_37.u9.c : IC := slices_IndexFunc_Token_Token_37.u1.c slices_IndexFunc_Token_Token_37.u8.c
noncomputable def slices_IndexFunc_Token_Token_37.f : Nat → Sl → (Int → M α) → M α
  | 0, _, _ => fail
  | k + 1, x0, ret =>
    slices_IndexFunc_Token_Token_37.u9.f k x0 (fun y0 =>
      ret y0)
noncomputable def slices_DeleteFunc_Token_Token_37.u1.f (k : Nat) (x0 : Sl) (kn : Sl → Int → M α) (kr : Sl → M α) : M α :=
  slices_IndexFunc_Token_Token_37.f k x0 fun r3 =>
  cond (decide (r3 = (-1))) (
    kr x0) (
    kn x0 r3)
noncomputable def slices_DeleteFunc_Token_Token_37.u1.c (R : IC) : IC := (.seq (.ops 0 (opsOf Try.f36 0)) (.seq (.ops 1 (opsOf Try.f36 1)) (.seq (.cut [0, 1, 5] (.seq (.ops 2 (opsOf Try.f36 2)) (.cond (.tmp 12) (.seq (.ops 3 (opsOf Try.f36 3)) (.ret [4])) .skip))) R)))
noncomputable def slices_DeleteFunc_Token_Token_37.u2.f (k : Nat) (x0 : Sl) (x1 : Int) (kn : Sl → Int → Int → M α) : M α :=
  kn x0 x1 (w64 (x1 + 1))
noncomputable def slices_DeleteFunc_Token_Token_37.u2.c (R : IC) : IC := (.seq (.cut [0, 1, 5, 6] (.ops 4 (opsOf Try.f36 4))) R)
noncomputable def slices_DeleteFunc_Token_Token_37.u3.f (k : Nat) (x0 : Sl) (x1 : Int) (x2 : Int) (kn : Sl → Int → Int → M α) (kx0 : Sl → Int → M α) : M α :=
  cond (decide (x2 < (x0.len : Int))) (
    idxSl x0 x2 4 fun a5 =>
    ldI .i64 (a5.add 0) fun x6 =>
    ldI .i64 (a5.add 1) fun x7 =>
    ldStr (a5.add 2) fun x8 =>
    ldI .i64 (a5.add 3) fun x9 =>
    new [.int .i64 0, .int .i64 0, .str [], .int .i64 0] fun v10 =>
    st1 (v10.add 0) (.int .i64 x6) <|
    st1 (v10.add 1) (.int .i64 x7) <|
    st1 (v10.add 2) (.str x8) <|
    st1 (v10.add 3) (.int .i64 x9) <|
    ldI .i64 (v10.add 0) fun x11 =>
    ldI .i64 (v10.add 1) fun x12 =>
    ldStr (v10.add 2) fun x13 =>
    ldI .i64 (v10.add 3) fun x14 =>
    syntax_Parse_c2.f k x11 x12 x13 x14 fun r15 =>
    cond (!r15) (
      ldI .i64 (v10.add 0) fun x16 =>
      ldI .i64 (v10.add 1) fun x17 =>
      ldStr (v10.add 2) fun x18 =>
      ldI .i64 (v10.add 3) fun x19 =>
      idxSl x0 x1 4 fun a20 =>
      st1 (a20.add 0) (.int .i64 x16) <|
      st1 (a20.add 1) (.int .i64 x17) <|
      st1 (a20.add 2) (.str x18) <|
      st1 (a20.add 3) (.int .i64 x19) <|
      kn x0 (w64 (x1 + 1)) (w64 (x2 + 1))) (
      kn x0 x1 (w64 (x2 + 1)))) (
    kx0 x0 x1)
noncomputable def slices_DeleteFunc_Token_Token_37.u3.c : IC := (.seq (.seq (.ops 5 (opsOf Try.f36 5)) (.cond (.tmp 19) .skip (.exit 0 [0, 5]))) (.seq (.block 1 (.seq (.ops 7 (opsOf Try.f36 7)) (.seq (.ops 8 (opsOf Try.f36 8)) (.cond (.tmp 29) (.seq (.ops 9 (opsOf Try.f36 9)) (.ops 10 (opsOf Try.f36 10))) .skip)))) (.cut [0, 1, 5, 6] (.ops 6 (opsOf Try.f36 6)))))
noncomputable def slices_DeleteFunc_Token_Token_37.u4.l (k : Nat) (kx0 : Sl → Int → M α) : Nat → Sl → Int → Int → M α
  | 0, _, _, _ => fail
  | j + 1, x0, x1, x2 =>
    slices_DeleteFunc_Token_Token_37.u3.f k x0 x1 x2 (fun y0 y1 y2 => slices_DeleteFunc_Token_Token_37.u4.l k kx0 j y0 y1 y2) kx0
noncomputable abbrev slices_DeleteFunc_Token_Token_37.u4.f (k : Nat) (x0 : Sl) (x1 : Int) (x2 : Int) (kx0 : Sl → Int → M α) : M α :=
  slices_DeleteFunc_Token_Token_37.u4.l k kx0 k x0 x1 x2
noncomputable def slices_DeleteFunc_Token_Token_37.u4.c : IC := .loop [0, 1, 5, 6] slices_DeleteFunc_Token_Token_37.u3.c
noncomputable abbrev slices_DeleteFunc_Token_Token_37.u5.f (k : Nat) (x0 : Sl) (x1 : Int) (x2 : Int) (kn : Sl → Int → M α) : M α :=
  slices_DeleteFunc_Token_Token_37.u4.f k x0 x1 x2 (fun y0 y1 => kn y0 y1)
noncomputable def slices_DeleteFunc_Token_Token_37.u5.c : IC := .block 0 slices_DeleteFunc_Token_Token_37.u4.c
noncomputable abbrev slices_DeleteFunc_Token_Token_37.u6.f (k : Nat) (x0 : Sl) (x1 : Int) (kn : Sl → Int → M α) : M α :=
  slices_DeleteFunc_Token_Token_37.u2.f k x0 x1 (fun y0 y1 y2 => slices_DeleteFunc_Token_Token_37.u5.f k y0 y1 y2 kn)
noncomputable def slices_DeleteFunc_Token_Token_37.u6.c : IC := slices_DeleteFunc_Token_Token_37.u2.c slices_DeleteFunc_Token_Token_37.u5.c
noncomputable def slices_DeleteFunc_Token_Token_37.u7.f (k : Nat) (x0 : Sl) (x1 : Int) (kr : Sl → M α) : M α :=
  cutSl x0 4 (some x1) none none fun x4 =>
  clearSl x4 [.int .i64 0, .int .i64 0, .str [], .int .i64 0] <|
  cutSl x0 4 none (some x1) none fun x5 =>
  kr x5
noncomputable def slices_DeleteFunc_Token_Token_37.u7.c : IC := (.seq (.ops 11 (opsOf Try.f36 11)) (.seq (.ops 12 (opsOf Try.f36 12)) (.ret [4])))
noncomputable abbrev slices_DeleteFunc_Token_Token_37.u8.f (k : Nat) (x0 : Sl) (x1 : Int) (kr : Sl → M α) : M α :=
  slices_DeleteFunc_Token_Token_37.u6.f k x0 x1 (fun y0 y1 => slices_DeleteFunc_Token_Token_37.u7.f k y0 y1 kr)
noncomputable def slices_DeleteFunc_Token_Token_37.u8.c : IC := (.seq slices_DeleteFunc_Token_Token_37.u6.c slices_DeleteFunc_Token_Token_37.u7.c)
noncomputable abbrev slices_DeleteFunc_Token_Token_37.u9.f (k : Nat) (x0 : Sl) (kr : Sl → M α) : M α :=
  slices_DeleteFunc_Token_Token_37.u1.f k x0 (fun y0 y1 => slices_DeleteFunc_Token_Token_37.u8.f k y0 y1 kr) kr
noncomputable def slices_DeleteFunc_Token_Token_37.u9.c : IC := slices_DeleteFunc_Token_Token_37.u1.c slices_DeleteFunc_Token_Token_37.u8.c
noncomputable def slices_DeleteFunc_Token_Token_37.f : Nat → Sl → (Sl → M α) → M α
  | 0, _, _ => fail
  | k + 1, x0, ret =>
    slices_DeleteFunc_Token_Token_37.u9.f k x0 (fun y0 =>
      ret y0)
noncomputable def spis.u1.f (k : Nat) (x0 : Ad) (x1 : List UInt8) (kr : Bool → M α) : M α :=
  ldS ((x0.add 0).add 0) fun x4 =>
  idxSl x4 0 4 fun a5 =>
  ldI .i64 ((a5.add 0).add 0) fun x6 =>
  cond (decide (x6 = 5)) (
    ldS ((x0.add 0).add 0) fun x7 =>
    idxSl x7 0 4 fun a8 =>
    ldStr ((a8.add 2).add 0) fun x9 =>
    kr (decide (x9 = x1))) (
    kr false)
noncomputable def spis.u1.c : IC := (.seq (.ops 0 (opsOf Try.f68 0)) (.seq (.ops 1 (opsOf Try.f68 1)) (.ret [4])))
noncomputable def spis.f : Nat → Ad → List UInt8 → (Bool → M α) → M α
  | 0, _, _, _ => fail
  | k + 1, x0, x1, ret =>
    spis.u1.f k x0 x1 (fun y0 =>
      ret y0)
noncomputable def spnext.u1.f (k : Nat) (x0 : Ad) (kr : Ad → M α) : M α :=
  new [.int .i64 0, .int .i64 0, .str [], .int .i64 0] fun x3 =>
  ldS ((x0.add 0).add 0) fun x4 =>
  idxSl x4 0 4 fun a5 =>
  ldI .i64 (a5.add 0) fun x6 =>
  ldI .i64 (a5.add 1) fun x7 =>
  ldStr (a5.add 2) fun x8 =>
  ldI .i64 (a5.add 3) fun x9 =>
  new [.int .i64 0, .int .i64 0, .str [], .int .i64 0] fun t10 =>
  st1 (t10.add 0) (.int .i64 x6) <|
  st1 (t10.add 1) (.int .i64 x7) <|
  st1 (t10.add 2) (.str x8) <|
  st1 (t10.add 3) (.int .i64 x9) <|
  ldS ((x0.add 0).add 0) fun x11 =>
  cutSl x11 4 (some 1) none none fun x12 =>
  st1 ((x0.add 0).add 0) (.slice x12) <|
  ldI .i64 (t10.add 0) fun x13 =>
  ldI .i64 (t10.add 1) fun x14 =>
  ldStr (t10.add 2) fun x15 =>
  ldI .i64 (t10.add 3) fun x16 =>
  st1 (x3.add 0) (.int .i64 x13) <|
  st1 (x3.add 1) (.int .i64 x14) <|
  st1 (x3.add 2) (.str x15) <|
  st1 (x3.add 3) (.int .i64 x16) <|
  kr x3
noncomputable def spnext.u1.c : IC := (.seq (.ops 0 (opsOf Try.f75 0)) (.seq (.ops 1 (opsOf Try.f75 1)) (.seq (.ops 2 (opsOf Try.f75 2)) (.seq (.ops 3 (opsOf Try.f75 3)) (.ret [2])))))
noncomputable def spnext.f : Nat → Ad → (Int → Int → List UInt8 → Int → M α) → M α
  | 0, _, _ => fail
  | k + 1, x0, ret =>
    spnext.u1.f k x0 (fun y0 =>
      ldI .i64 (y0.add 0) fun o501 =>
      ldI .i64 (y0.add 1) fun o502 =>
      ldStr (y0.add 2) fun o503 =>
      ldI .i64 (y0.add 3) fun o504 =>
      ret o501 o502 o503 o504)
noncomputable def spmakes.u1.f (k : Nat) (x0 : Ad) (kr : Ad → M α) (kp : V → M α) : M α :=
  new [.int .i64 0, .int .i64 0, .str [], .int .i64 0] fun x3 =>
  ldI .i64 ((x0.add 1).add 0) fun x4 =>
  cond (decide (x4 = 60)) (
    ldS ((x0.add 0).add 0) fun x5 =>
    idxSl x5 0 4 fun a6 =>
    ldI .i64 ((a6.add 1).add 0) fun x7 =>
    kp (.iface 61 (.agg [.int .i64 x7, .int .i64 10]))) (
    ldI .i64 ((x0.add 1).add 0) fun x8 =>
    st1 ((x0.add 1).add 0) (.int .i64 (w64 (x8 + 1))) <|
    spnext.f k x0 fun r9 r10 r11 r12 =>
    st1 (x3.add 0) (.int .i64 r9) <|
    st1 (x3.add 1) (.int .i64 r10) <|
    st1 (x3.add 2) (.str r11) <|
    st1 (x3.add 3) (.int .i64 r12) <|
    kr x3)
noncomputable def spmakes.u1.c : IC := (.seq (.ops 0 (opsOf Try.f69 0)) (.seq (.seq (.ops 1 (opsOf Try.f69 1)) (.cond (.tmp 7) (.ops 2 (opsOf Try.f69 2)) .skip)) (.seq (.ops 3 (opsOf Try.f69 3)) (.seq (.ops 4 (opsOf Try.f69 4)) (.ret [2])))))
noncomputable def spmakes.f : Nat → Ad → (V → M α) → (Int → Int → List UInt8 → Int → M α) → M α
  | 0, _, _, _ => fail
  | k + 1, x0, pan, ret =>
    spmakes.u1.f k x0 (fun y0 =>
      ldI .i64 (y0.add 0) fun o501 =>
      ldI .i64 (y0.add 1) fun o502 =>
      ldStr (y0.add 2) fun o503 =>
      ldI .i64 (y0.add 3) fun o504 =>
      ret o501 o502 o503 o504) pan
noncomputable def spnode.u1.f (k : Nat) (x0 : Ad) (x1 : Int) (x2 : Int) (x3 : Int) (x4 : List UInt8) (x5 : Int) (kr : Int → M α) : M α :=
  new [.int .i64 x1, .int .i64 x2, .int .i64 x3, .str x4, .int .i64 x5] fun n8 =>
  ldS ((x0.add 2).add 0) fun x9 =>
  ldI .i64 (n8.add 0) fun x10 =>
  ldI .i64 (n8.add 1) fun x11 =>
  ldI .i64 (n8.add 2) fun x12 =>
  ldStr (n8.add 3) fun x13 =>
  ldI .i64 (n8.add 4) fun x14 =>
  new [.int .i64 x10, .int .i64 x11, .int .i64 x12, .str x13, .int .i64 x14] fun r15 =>
  ldS ((x0.add 2).add 0) fun y16 =>
  need (decide (x9 = y16)) <|
  appRow x9 5 48 (⟨some r15, 1, 1, none⟩ : Sl) fun x17 =>
  st1 ((x0.add 2).add 0) (.slice x17) <|
  ldS ((x0.add 2).add 0) fun x18 =>
  kr (w64 ((x18.len : Int) - 1))
noncomputable def spnode.u1.c : IC := (.seq (.ops 0 (opsOf Try.f70 0)) (.seq (.drawn 1 (opsOf Try.f70 1) true [.op 0, .op 1, .op 2, .op 3, .op 4, .op 5, .op 6, .look 4, .op 7, .op 8, .op 9, .op 10]) (.seq (.ops 2 (opsOf Try.f70 2)) (.ret [4]))))
noncomputable def spnode.f : Nat → Ad → Int → Int → Int → List UInt8 → Int → (Int → M α) → M α
  | 0, _, _, _, _, _, _, _ => fail
  | k + 1, x0, x1, x2, x3, x4, x5, ret =>
    spnode.u1.f k x0 x1 x2 x3 x4 x5 (fun y0 =>
      ret y0)
noncomputable def spwrong.u1.f (k : Nat) (x0 : Ad) (kp : V → M α) : M α :=
  ldS ((x0.add 0).add 0) fun x3 =>
  idxSl x3 0 4 fun a4 =>
  ldI .i64 ((a4.add 0).add 0) fun x5 =>
  cond (decide (x5 = 0)) (
    ldS ((x0.add 0).add 0) fun x6 =>
    idxSl x6 0 4 fun a7 =>
    ldI .i64 ((a7.add 1).add 0) fun x8 =>
    kp (.iface 61 (.agg [.int .i64 x8, .int .i64 6]))) (
    ldS ((x0.add 0).add 0) fun x9 =>
    idxSl x9 0 4 fun a10 =>
    ldI .i64 ((a10.add 1).add 0) fun x11 =>
    kp (.iface 61 (.agg [.int .i64 x11, .int .i64 7])))
noncomputable def spwrong.u1.c : IC := (.seq (.ops 0 (opsOf Try.f39 0)) (.seq (.seq (.ops 1 (opsOf Try.f39 1)) (.cond (.tmp 10) (.ops 2 (opsOf Try.f39 2)) .skip)) (.ops 3 (opsOf Try.f39 3))))
noncomputable def spwrong.f : Nat → Ad → (V → M α) → (M α) → M α
  | 0, _, _, _ => fail
  | k + 1, x0, pan, ret =>
    spwrong.u1.f k x0 pan
noncomputable def syntax_word.u1.f (k : Nat) (x0 : List UInt8) (kr : Bool → M α) : M α :=
  cond (decide (x0 = [116, 116])) (
    kr true) (
    cond (decide (x0 = [102, 102])) (
      kr true) (
      cond (decide (x0 = [109, 117])) (
        kr true) (
        kr (decide (x0 = [110, 117])))))
noncomputable def syntax_word.u1.c : IC := (.seq (.ops 0 (opsOf Try.f63 0)) (.seq (.ops 1 (opsOf Try.f63 1)) (.ret [2])))
noncomputable def syntax_word.f : Nat → List UInt8 → (Bool → M α) → M α
  | 0, _, _ => fail
  | k + 1, x0, ret =>
    syntax_word.u1.f k x0 (fun y0 =>
      ret y0)
noncomputable def spneed.u1.f (k : Nat) (x0 : Ad) (x1 : List UInt8) (kn : M α) (kp : V → M α) : M α :=
  spis.f k x0 x1 fun r4 =>
  cond (!r4) (
    spwrong.f k x0 (fun e9 =>
      kp e9) (
      spnext.f k x0 fun r5 r6 r7 r8 =>
      kn)) (
    spnext.f k x0 fun r10 r11 r12 r13 =>
    kn)
noncomputable def spneed.u1.c : IC := (.seq (.seq (.ops 0 (opsOf Try.f77 0)) (.cond (.tmp 7) (.ops 1 (opsOf Try.f77 1)) .skip)) (.cut [] (.ops 2 (opsOf Try.f77 2))))
noncomputable def spneed.f : Nat → Ad → List UInt8 → (V → M α) → (M α) → M α
  | 0, _, _, _, _ => fail
  | k + 1, x0, x1, pan, ret =>
    spneed.u1.f k x0 x1 (ret) pan
noncomputable def spstep.u1.f (k : Nat) (x0 : Ad) (x1 : List UInt8) (kr : List UInt8 → M α) (kp : V → M α) : M α :=
  spis.f k x0 [45] fun r4 =>
  cond (!r4) (
    ldS ((x0.add 0).add 0) fun x5 =>
    idxSl x5 0 4 fun a6 =>
    ldI .i64 ((a6.add 0).add 0) fun x7 =>
    cond (!(decide (x7 = 2))) (
      spwrong.f k x0 (fun e13 =>
        kp e13) (
        spnext.f k x0 fun r8 r9 r10 r11 =>
        spneed.f k x0 x1 (fun e12 =>
          kp e12) (
          kr r10))) (
      ldS ((x0.add 0).add 0) fun x14 =>
      idxSl x14 0 4 fun a15 =>
      ldStr ((a15.add 2).add 0) fun x16 =>
      syntax_word.f k x16 fun r17 =>
      cond (r17) (
        spwrong.f k x0 (fun e23 =>
          kp e23) (
          spnext.f k x0 fun r18 r19 r20 r21 =>
          spneed.f k x0 x1 (fun e22 =>
            kp e22) (
            kr r20))) (
        spnext.f k x0 fun r24 r25 r26 r27 =>
        spneed.f k x0 x1 (fun e28 =>
          kp e28) (
          kr r26)))) (
    spnext.f k x0 fun r29 r30 r31 r32 =>
    spneed.f k x0 x1 (fun e33 =>
      kp e33) (
      kr r31))
noncomputable def spstep.u1.c : IC := (.seq (.ops 0 (opsOf Try.f76 0)) (.seq (.seq (.ops 1 (opsOf Try.f76 1)) (.cond (.tmp 28) (.ops 2 (opsOf Try.f76 2)) .skip)) (.seq (.ops 3 (opsOf Try.f76 3)) (.seq (.ops 4 (opsOf Try.f76 4)) (.seq (.ops 5 (opsOf Try.f76 5)) (.ret [4]))))))
noncomputable def spstep.f : Nat → Ad → List UInt8 → (V → M α) → (List UInt8 → M α) → M α
  | 0, _, _, _, _ => fail
  | k + 1, x0, x1, pan, ret =>
    spstep.u1.f k x0 x1 (fun y0 =>
      ret y0) pan
noncomputable def spformula.u1.f (k : Nat) (rr53 : Ad → List UInt8 → Int → V → (V → M α) → (Int → M α) → M α) (x0 : Ad) (kr : Int → M α) (kp : V → M α) : M α :=
  rr53 x0 [124] 7 (.func 54 [.ptr (some x0)] []) (fun e4 =>
    kp e4) (
    fun r3 =>
    kr r3)
noncomputable def spformula.u1.c : IC := (.seq (.ops 0 (opsOf Try.f38 0)) (.seq (.ops 1 (opsOf Try.f38 1)) (.ret [2])))
noncomputable def sprow.u1.f (k : Nat) (rr54 : Ad → (V → M α) → (Int → M α) → M α) (rr71 : Ad → (V → M α) → (Int → M α) → M α) (x0 : Ad) (x1 : List UInt8) (x2 : Int) (x3 : V) (kn : Ad → List UInt8 → Int → V → Int → M α) (kp : V → M α) : M α :=
  asFunc x3 fun f6 ls7 ls8 =>
  cond (Nat.beq f6 54) (
    uncons ls7 fun v9 ls10 =>
    unnil ls10 <|
    unnil ls8 <|
    asP v9 fun x11 =>
    asSome x11 fun p12 =>
    rr54 p12 (fun e14 =>
      kp e14) (
      fun r13 =>
      kn x0 x1 x2 x3 r13)) (
    cond (Nat.beq f6 71) (
      uncons ls7 fun v15 ls16 =>
      unnil ls16 <|
      unnil ls8 <|
      asP v15 fun x17 =>
      asSome x17 fun p18 =>
      rr71 p18 (fun e20 =>
        kp e20) (
        fun r19 =>
        kn x0 x1 x2 x3 r19)) (
      fail))
noncomputable def sprow.u1.c (R : IC) : IC := (.seq (.ops 0 (opsOf Try.f53 0)) (.seq (.cut [0, 1, 2, 3, 9] (.drawn 1 (opsOf Try.f53 1) false [.op 0, .expect 11 [(54, 1, 0), (71, 1, 0)], .op 1, .op 2])) R))
noncomputable def sprow.u2.f (k : Nat) (rr54 : Ad → (V → M α) → (Int → M α) → M α) (rr71 : Ad → (V → M α) → (Int → M α) → M α) (x0 : Ad) (x1 : List UInt8) (x2 : Int) (x3 : V) (x4 : Int) (kn : Ad → List UInt8 → Int → V → Int → M α) (kx0 : Int → M α) (kp : V → M α) : M α :=
  spis.f k x0 x1 fun r7 =>
  cond (r7) (
    spmakes.f k x0 (fun e33 =>
      kp e33) (
      fun r8 r9 r10 r11 =>
      new [.int .i64 0, .int .i64 0, .str [], .int .i64 0] fun t12 =>
      st1 (t12.add 0) (.int .i64 r8) <|
      st1 (t12.add 1) (.int .i64 r9) <|
      st1 (t12.add 2) (.str r10) <|
      st1 (t12.add 3) (.int .i64 r11) <|
      ldI .i64 ((t12.add 1).add 0) fun x13 =>
      asFunc x3 fun f14 ls15 ls16 =>
      cond (Nat.beq f14 54) (
        uncons ls15 fun v17 ls18 =>
        unnil ls18 <|
        unnil ls16 <|
        asP v17 fun x19 =>
        asSome x19 fun p20 =>
        rr54 p20 (fun e24 =>
          kp e24) (
          fun r21 =>
          ldI .i64 ((t12.add 1).add 0) fun y22 =>
          need (decide (x13 = y22)) <|
          spnode.f k x0 x2 x4 r21 [] x13 fun r23 =>
          kn x0 x1 x2 x3 r23)) (
        cond (Nat.beq f14 71) (
          uncons ls15 fun v25 ls26 =>
          unnil ls26 <|
          unnil ls16 <|
          asP v25 fun x27 =>
          asSome x27 fun p28 =>
          rr71 p28 (fun e32 =>
            kp e32) (
            fun r29 =>
            ldI .i64 ((t12.add 1).add 0) fun y30 =>
            need (decide (x13 = y30)) <|
            spnode.f k x0 x2 x4 r29 [] x13 fun r31 =>
            kn x0 x1 x2 x3 r31)) (
          fail)))) (
    kx0 x4)
noncomputable def sprow.u2.c : IC := (.seq (.seq (.ops 2 (opsOf Try.f53 2)) (.cond (.tmp 15) .skip (.exit 0 [9]))) (.cut [0, 1, 2, 3, 9] (.block 1 (.seq (.ops 3 (opsOf Try.f53 3)) (.drawn 4 (opsOf Try.f53 4) true [.op 0, .op 1, .op 2, .op 3, .op 5, .op 6, .expect 21 [(54, 1, 0), (71, 1, 0)], .op 4, .look 6, .op 7, .op 8, .op 9])))))
noncomputable def sprow.u3.l (k : Nat) (rr54 : Ad → (V → M α) → (Int → M α) → M α) (rr71 : Ad → (V → M α) → (Int → M α) → M α) (kx0 : Int → M α) (kp : V → M α) : Nat → Ad → List UInt8 → Int → V → Int → M α
  | 0, _, _, _, _, _ => fail
  | j + 1, x0, x1, x2, x3, x4 =>
    sprow.u2.f k rr54 rr71 x0 x1 x2 x3 x4 (fun y0 y1 y2 y3 y4 => sprow.u3.l k rr54 rr71 kx0 kp j y0 y1 y2 y3 y4) kx0 kp
noncomputable abbrev sprow.u3.f (k : Nat) (rr54 : Ad → (V → M α) → (Int → M α) → M α) (rr71 : Ad → (V → M α) → (Int → M α) → M α) (x0 : Ad) (x1 : List UInt8) (x2 : Int) (x3 : V) (x4 : Int) (kx0 : Int → M α) (kp : V → M α) : M α :=
  sprow.u3.l k rr54 rr71 kx0 kp k x0 x1 x2 x3 x4
noncomputable def sprow.u3.c : IC := .loop [0, 1, 2, 3, 9] sprow.u2.c
noncomputable abbrev sprow.u4.f (k : Nat) (rr54 : Ad → (V → M α) → (Int → M α) → M α) (rr71 : Ad → (V → M α) → (Int → M α) → M α) (x0 : Ad) (x1 : List UInt8) (x2 : Int) (x3 : V) (x4 : Int) (kn : Int → M α) (kp : V → M α) : M α :=
  sprow.u3.f k rr54 rr71 x0 x1 x2 x3 x4 (fun y0 => kn y0) kp
noncomputable def sprow.u4.c : IC := .block 0 sprow.u3.c
noncomputable def sprow.u5.f (k : Nat) (x0 : Int) (kr : Int → M α) : M α :=
  kr x0
noncomputable def sprow.u5.c : IC := (.seq (.ops 5 (opsOf Try.f53 5)) (.ret [8]))
noncomputable abbrev sprow.u6.f (k : Nat) (rr54 : Ad → (V → M α) → (Int → M α) → M α) (rr71 : Ad → (V → M α) → (Int → M α) → M α) (x0 : Ad) (x1 : List UInt8) (x2 : Int) (x3 : V) (x4 : Int) (kr : Int → M α) (kp : V → M α) : M α :=
  sprow.u4.f k rr54 rr71 x0 x1 x2 x3 x4 (fun y0 => sprow.u5.f k y0 kr) kp
noncomputable def sprow.u6.c : IC := (.seq sprow.u4.c sprow.u5.c)
noncomputable abbrev sprow.u7.f (k : Nat) (rr54 : Ad → (V → M α) → (Int → M α) → M α) (rr71 : Ad → (V → M α) → (Int → M α) → M α) (x0 : Ad) (x1 : List UInt8) (x2 : Int) (x3 : V) (kr : Int → M α) (kp : V → M α) : M α :=
  sprow.u1.f k rr54 rr71 x0 x1 x2 x3 (fun y0 y1 y2 y3 y4 => sprow.u6.f k rr54 rr71 y0 y1 y2 y3 y4 kr kp) kp
noncomputable def sprow.u7.c : IC := sprow.u1.c sprow.u6.c
noncomputable def spand.u1.f (k : Nat) (rr53 : Ad → List UInt8 → Int → V → (V → M α) → (Int → M α) → M α) (x0 : Ad) (kr : Int → M α) (kp : V → M α) : M α :=
  rr53 x0 [38] 6 (.func 71 [.ptr (some x0)] []) (fun e4 =>
    kp e4) (
    fun r3 =>
    kr r3)
noncomputable def spand.u1.c : IC := (.seq (.ops 0 (opsOf Try.f54 0)) (.seq (.ops 1 (opsOf Try.f54 1)) (.ret [2])))
noncomputable def spunary.u1.f (k : Nat) (x0 : Ad) (kn : Ad → M α) : M α :=
  kn x0
noncomputable def spunary.u1.c (R : IC) : IC := (.seq (.cut [0] (.ops 0 (opsOf Try.f71 0))) R)
noncomputable def spunary.u2.f (k : Nat) (x0 : Ad) (kn : Ad → Bool → M α) : M α :=
  spis.f k x0 [126] fun r3 =>
  kn x0 r3
noncomputable def spunary.u2.c (R : IC) : IC := (.seq (.cut [0, 10] (.ops 1 (opsOf Try.f71 1))) R)
noncomputable def spunary.u3.f (k : Nat) (rr71 : Ad → (V → M α) → (Int → M α) → M α) (x0 : Ad) (x1 : Bool) (kr : Int → M α) (kp : V → M α) : M α :=
  spmakes.f k x0 (fun e14 =>
    kp e14) (
    fun r4 r5 r6 r7 =>
    new [.int .i64 0, .int .i64 0, .str [], .int .i64 0] fun t8 =>
    st1 (t8.add 0) (.int .i64 r4) <|
    st1 (t8.add 1) (.int .i64 r5) <|
    st1 (t8.add 2) (.str r6) <|
    st1 (t8.add 3) (.int .i64 r7) <|
    ldI .i64 ((t8.add 1).add 0) fun x9 =>
    rr71 x0 (fun e13 =>
      kp e13) (
      fun r10 =>
      ldI .i64 ((t8.add 1).add 0) fun y11 =>
      need (decide (x9 = y11)) <|
      spnode.f k x0 5 r10 0 [] x9 fun r12 =>
      kr r12))
noncomputable def spunary.u3.c : IC := (.seq (.ops 2 (opsOf Try.f71 2)) (.seq (.drawn 3 (opsOf Try.f71 3) true [.op 0, .op 1, .op 3, .op 4, .op 2, .look 4, .op 5, .op 6, .op 7]) (.ret [2])))
noncomputable def spunary.u4.f (k : Nat) (x0 : Ad) (x1 : Bool) (kn : Ad → Bool → M α) : M α :=
  spis.f k x0 [60] fun r4 =>
  kn x0 r4
noncomputable def spunary.u4.c (R : IC) : IC := (.seq (.cut [0, 22] (.ops 4 (opsOf Try.f71 4))) R)
noncomputable def spunary.u5.f (k : Nat) (rr71 : Ad → (V → M α) → (Int → M α) → M α) (x0 : Ad) (x1 : Bool) (kr : Int → M α) (kp : V → M α) : M α :=
  spmakes.f k x0 (fun e16 =>
    kp e16) (
    fun r4 r5 r6 r7 =>
    new [.int .i64 0, .int .i64 0, .str [], .int .i64 0] fun t8 =>
    st1 (t8.add 0) (.int .i64 r4) <|
    st1 (t8.add 1) (.int .i64 r5) <|
    st1 (t8.add 2) (.str r6) <|
    st1 (t8.add 3) (.int .i64 r7) <|
    spstep.f k x0 [62] (fun e15 =>
      kp e15) (
      fun r9 =>
      ldI .i64 ((t8.add 1).add 0) fun x10 =>
      rr71 x0 (fun e14 =>
        kp e14) (
        fun r11 =>
        ldI .i64 ((t8.add 1).add 0) fun y12 =>
        need (decide (x10 = y12)) <|
        spnode.f k x0 8 r11 0 r9 x10 fun r13 =>
        kr r13)))
noncomputable def spunary.u5.c : IC := (.seq (.ops 5 (opsOf Try.f71 5)) (.seq (.ops 6 (opsOf Try.f71 6)) (.seq (.drawn 7 (opsOf Try.f71 7) true [.op 0, .op 1, .op 3, .op 4, .op 5, .op 2, .look 5, .op 6, .op 7, .op 8]) (.ret [2]))))
noncomputable def spunary.u6.f (k : Nat) (x0 : Ad) (x1 : Bool) (kn : Ad → Bool → M α) : M α :=
  spis.f k x0 [91] fun r4 =>
  kn x0 r4
noncomputable def spunary.u6.c (R : IC) : IC := (.seq (.cut [0, 37] (.ops 8 (opsOf Try.f71 8))) R)
noncomputable def spunary.u7.f (k : Nat) (rr71 : Ad → (V → M α) → (Int → M α) → M α) (x0 : Ad) (x1 : Bool) (kr : Int → M α) (kp : V → M α) : M α :=
  spmakes.f k x0 (fun e16 =>
    kp e16) (
    fun r4 r5 r6 r7 =>
    new [.int .i64 0, .int .i64 0, .str [], .int .i64 0] fun t8 =>
    st1 (t8.add 0) (.int .i64 r4) <|
    st1 (t8.add 1) (.int .i64 r5) <|
    st1 (t8.add 2) (.str r6) <|
    st1 (t8.add 3) (.int .i64 r7) <|
    spstep.f k x0 [93] (fun e15 =>
      kp e15) (
      fun r9 =>
      ldI .i64 ((t8.add 1).add 0) fun x10 =>
      rr71 x0 (fun e14 =>
        kp e14) (
        fun r11 =>
        ldI .i64 ((t8.add 1).add 0) fun y12 =>
        need (decide (x10 = y12)) <|
        spnode.f k x0 9 r11 0 r9 x10 fun r13 =>
        kr r13)))
noncomputable def spunary.u7.c : IC := (.seq (.ops 9 (opsOf Try.f71 9)) (.seq (.ops 10 (opsOf Try.f71 10)) (.seq (.drawn 11 (opsOf Try.f71 11) true [.op 0, .op 1, .op 3, .op 4, .op 5, .op 2, .look 5, .op 6, .op 7, .op 8]) (.ret [2]))))
noncomputable def spunary.u8.f (k : Nat) (rr38 : Ad → (V → M α) → (Int → M α) → M α) (rr78 : Ad → (V → M α) → (Int → M α) → M α) (x0 : Ad) (x1 : Bool) (kn : Ad → M α) (kr : Int → M α) (kp : V → M α) : M α :=
  spis.f k x0 [40] fun r4 =>
  cond (r4) (
    spnext.f k x0 fun r5 r6 r7 r8 =>
    rr38 x0 (fun e11 =>
      kp e11) (
      fun r9 =>
      spneed.f k x0 [41] (fun e10 =>
        kp e10) (
        kr r9))) (
    ldS ((x0.add 0).add 0) fun x12 =>
    idxSl x12 0 4 fun a13 =>
    ldI .i64 ((a13.add 0).add 0) fun x14 =>
    cond (decide (x14 = 3)) (
      spmakes.f k x0 (fun e23 =>
        kp e23) (
        fun r15 r16 r17 r18 =>
        new [.int .i64 0, .int .i64 0, .str [], .int .i64 0] fun t19 =>
        st1 (t19.add 0) (.int .i64 r15) <|
        st1 (t19.add 1) (.int .i64 r16) <|
        st1 (t19.add 2) (.str r17) <|
        st1 (t19.add 3) (.int .i64 r18) <|
        ldStr ((t19.add 2).add 0) fun x20 =>
        ldI .i64 ((t19.add 1).add 0) fun x21 =>
        spnode.f k x0 4 0 0 x20 x21 fun r22 =>
        kr r22)) (
      ldS ((x0.add 0).add 0) fun x24 =>
      idxSl x24 0 4 fun a25 =>
      ldI .i64 ((a25.add 0).add 0) fun x26 =>
      cond (decide (x26 = 2)) (
        rr78 x0 (fun e28 =>
          kp e28) (
          fun r27 =>
          kr r27)) (
        kn x0)))
noncomputable def spunary.u8.c : IC := (.seq (.ops 12 (opsOf Try.f71 12)) (.cut [0] (.cond (.tmp 52) (.seq (.ops 13 (opsOf Try.f71 13)) (.seq (.ops 14 (opsOf Try.f71 14)) (.seq (.ops 15 (opsOf Try.f71 15)) (.seq (.ops 16 (opsOf Try.f71 16)) (.ret [2]))))) (.seq (.ops 17 (opsOf Try.f71 17)) (.cond (.tmp 62) (.seq (.ops 18 (opsOf Try.f71 18)) (.seq (.ops 19 (opsOf Try.f71 19)) (.ret [2]))) (.seq (.ops 20 (opsOf Try.f71 20)) (.cond (.tmp 80) (.seq (.ops 21 (opsOf Try.f71 21)) (.ret [2])) .skip)))))))
noncomputable abbrev spunary.u9.f (k : Nat) (rr71 : Ad → (V → M α) → (Int → M α) → M α) (rr38 : Ad → (V → M α) → (Int → M α) → M α) (rr78 : Ad → (V → M α) → (Int → M α) → M α) (x0 : Ad) (x1 : Bool) (kn : Ad → M α) (kr : Int → M α) (kp : V → M α) : M α :=
  cond x1 (
    spunary.u7.f k rr71 x0 x1 kr kp) (
    spunary.u8.f k rr38 rr78 x0 x1 kn kr kp)
noncomputable def spunary.u9.c : IC := .cond (.tmp 37) spunary.u7.c spunary.u8.c
noncomputable abbrev spunary.u10.f (k : Nat) (rr71 : Ad → (V → M α) → (Int → M α) → M α) (rr38 : Ad → (V → M α) → (Int → M α) → M α) (rr78 : Ad → (V → M α) → (Int → M α) → M α) (x0 : Ad) (x1 : Bool) (kn : Ad → M α) (kr : Int → M α) (kp : V → M α) : M α :=
  spunary.u6.f k x0 x1 (fun y0 y1 => spunary.u9.f k rr71 rr38 rr78 y0 y1 kn kr kp)
noncomputable def spunary.u10.c : IC := spunary.u6.c spunary.u9.c
noncomputable abbrev spunary.u11.f (k : Nat) (rr71 : Ad → (V → M α) → (Int → M α) → M α) (rr38 : Ad → (V → M α) → (Int → M α) → M α) (rr78 : Ad → (V → M α) → (Int → M α) → M α) (x0 : Ad) (x1 : Bool) (kn : Ad → M α) (kr : Int → M α) (kp : V → M α) : M α :=
  cond x1 (
    spunary.u5.f k rr71 x0 x1 kr kp) (
    spunary.u10.f k rr71 rr38 rr78 x0 x1 kn kr kp)
noncomputable def spunary.u11.c : IC := .cond (.tmp 22) spunary.u5.c spunary.u10.c
noncomputable abbrev spunary.u12.f (k : Nat) (rr71 : Ad → (V → M α) → (Int → M α) → M α) (rr38 : Ad → (V → M α) → (Int → M α) → M α) (rr78 : Ad → (V → M α) → (Int → M α) → M α) (x0 : Ad) (x1 : Bool) (kn : Ad → M α) (kr : Int → M α) (kp : V → M α) : M α :=
  spunary.u4.f k x0 x1 (fun y0 y1 => spunary.u11.f k rr71 rr38 rr78 y0 y1 kn kr kp)
noncomputable def spunary.u12.c : IC := spunary.u4.c spunary.u11.c
noncomputable abbrev spunary.u13.f (k : Nat) (rr71 : Ad → (V → M α) → (Int → M α) → M α) (rr38 : Ad → (V → M α) → (Int → M α) → M α) (rr78 : Ad → (V → M α) → (Int → M α) → M α) (x0 : Ad) (x1 : Bool) (kn : Ad → M α) (kr : Int → M α) (kp : V → M α) : M α :=
  cond x1 (
    spunary.u3.f k rr71 x0 x1 kr kp) (
    spunary.u12.f k rr71 rr38 rr78 x0 x1 kn kr kp)
noncomputable def spunary.u13.c : IC := .cond (.tmp 10) spunary.u3.c spunary.u12.c
noncomputable abbrev spunary.u14.f (k : Nat) (rr71 : Ad → (V → M α) → (Int → M α) → M α) (rr38 : Ad → (V → M α) → (Int → M α) → M α) (rr78 : Ad → (V → M α) → (Int → M α) → M α) (x0 : Ad) (kn : Ad → M α) (kr : Int → M α) (kp : V → M α) : M α :=
  spunary.u2.f k x0 (fun y0 y1 => spunary.u13.f k rr71 rr38 rr78 y0 y1 kn kr kp)
noncomputable def spunary.u14.c : IC := spunary.u2.c spunary.u13.c
noncomputable abbrev spunary.u15.f (k : Nat) (rr71 : Ad → (V → M α) → (Int → M α) → M α) (rr38 : Ad → (V → M α) → (Int → M α) → M α) (rr78 : Ad → (V → M α) → (Int → M α) → M α) (x0 : Ad) (kn : Ad → M α) (kr : Int → M α) (kp : V → M α) : M α :=
  spunary.u14.f k rr71 rr38 rr78 x0 (fun y0 => kn y0) kr kp
noncomputable def spunary.u15.c : IC := .block 0 spunary.u14.c
noncomputable def spunary.u16.f (k : Nat) (x0 : Ad) (kr : Int → M α) (kp : V → M α) : M α :=
  spwrong.f k x0 (fun e3 =>
    kp e3) (
    kr 0)
noncomputable def spunary.u16.c : IC := (.seq (.ops 22 (opsOf Try.f71 22)) (.seq (.ops 23 (opsOf Try.f71 23)) (.ret [2])))
noncomputable abbrev spunary.u17.f (k : Nat) (rr71 : Ad → (V → M α) → (Int → M α) → M α) (rr38 : Ad → (V → M α) → (Int → M α) → M α) (rr78 : Ad → (V → M α) → (Int → M α) → M α) (x0 : Ad) (kr : Int → M α) (kp : V → M α) : M α :=
  spunary.u15.f k rr71 rr38 rr78 x0 (fun y0 => spunary.u16.f k y0 kr kp) kr kp
noncomputable def spunary.u17.c : IC := (.seq spunary.u15.c spunary.u16.c)
noncomputable abbrev spunary.u18.f (k : Nat) (rr71 : Ad → (V → M α) → (Int → M α) → M α) (rr38 : Ad → (V → M α) → (Int → M α) → M α) (rr78 : Ad → (V → M α) → (Int → M α) → M α) (x0 : Ad) (kr : Int → M α) (kp : V → M α) : M α :=
  spunary.u1.f k x0 (fun y0 => spunary.u17.f k rr71 rr38 rr78 y0 kr kp)
noncomputable def spunary.u18.c : IC := spunary.u1.c spunary.u17.c
noncomputable def spword.u1.f (k : Nat) (x0 : Ad) (kn : Ad → Ad → Int → M α) (kr : Int → M α) (kp : V → M α) : M α :=
  spmakes.f k x0 (fun e16 =>
    kp e16) (
    fun r3 r4 r5 r6 =>
    new [.int .i64 0, .int .i64 0, .str [], .int .i64 0] fun t7 =>
    st1 (t7.add 0) (.int .i64 r3) <|
    st1 (t7.add 1) (.int .i64 r4) <|
    st1 (t7.add 2) (.str r5) <|
    st1 (t7.add 3) (.int .i64 r6) <|
    ldStr ((t7.add 2).add 0) fun x8 =>
    cond (decide (x8 = [116, 116])) (
      ldI .i64 ((t7.add 1).add 0) fun x9 =>
      spnode.f k x0 1 0 0 [] x9 fun r10 =>
      kr r10) (
      cond (decide (x8 = [102, 102])) (
        ldI .i64 ((t7.add 1).add 0) fun x11 =>
        spnode.f k x0 2 0 0 [] x11 fun r12 =>
        kr r12) (
        cond (decide (x8 = [109, 117])) (
          kn x0 t7 10) (
          cond (decide (x8 = [110, 117])) (
            kn x0 t7 11) (
            ldStr ((t7.add 2).add 0) fun x13 =>
            ldI .i64 ((t7.add 1).add 0) fun x14 =>
            spnode.f k x0 3 0 0 x13 x14 fun r15 =>
            kr r15)))))
noncomputable def spword.u1.c (R : IC) : IC := (.seq (.ops 0 (opsOf Try.f78 0)) (.seq (.ops 1 (opsOf Try.f78 1)) (.seq (.ops 2 (opsOf Try.f78 2)) (.seq (.cut [0, 3, 4] (.seq (.ops 3 (opsOf Try.f78 3)) (.block 0 (.seq (.ops 5 (opsOf Try.f78 5)) (.cond (.tmp 17) (.seq (.ops 6 (opsOf Try.f78 6)) (.ret [2])) (.seq (.ops 7 (opsOf Try.f78 7)) (.cond (.tmp 24) (.seq (.ops 8 (opsOf Try.f78 8)) (.ret [2])) (.seq (.ops 9 (opsOf Try.f78 9)) (.cond (.tmp 31) (.ops 10 (opsOf Try.f78 10)) (.seq (.ops 11 (opsOf Try.f78 11)) (.cond (.tmp 33) .skip (.seq (.ops 4 (opsOf Try.f78 4)) (.ret [2]))))))))))))) R))))
noncomputable def spword.u2.f (k : Nat) (x0 : Ad) (x1 : Ad) (x2 : Int) (kn : Ad → Ad → Int → M α) (kp : V → M α) : M α :=
  ldS ((x0.add 0).add 0) fun x5 =>
  idxSl x5 0 4 fun a6 =>
  ldI .i64 ((a6.add 0).add 0) fun x7 =>
  cond (!(decide (x7 = 3))) (
    spwrong.f k x0 (fun e8 =>
      kp e8) (
      kn x0 x1 x2)) (
    kn x0 x1 x2)
noncomputable def spword.u2.c (R : IC) : IC := (.seq (.cut [0, 3, 4] (.seq (.ops 12 (opsOf Try.f78 12)) (.cond (.tmp 42) (.ops 13 (opsOf Try.f78 13)) .skip))) R)
noncomputable def spword.u3.f (k : Nat) (rr38 : Ad → (V → M α) → (Int → M α) → M α) (x0 : Ad) (x1 : Ad) (x2 : Int) (kr : Int → M α) (kp : V → M α) : M α :=
  spnext.f k x0 fun r5 r6 r7 r8 =>
  spneed.f k x0 [46] (fun e14 =>
    kp e14) (
    ldI .i64 ((x1.add 1).add 0) fun x9 =>
    rr38 x0 (fun e13 =>
      kp e13) (
      fun r10 =>
      ldI .i64 ((x1.add 1).add 0) fun y11 =>
      need (decide (x9 = y11)) <|
      spnode.f k x0 x2 r10 0 r7 x9 fun r12 =>
      kr r12))
noncomputable def spword.u3.c : IC := (.seq (.ops 14 (opsOf Try.f78 14)) (.seq (.ops 15 (opsOf Try.f78 15)) (.seq (.drawn 16 (opsOf Try.f78 16) true [.op 0, .op 1, .op 2, .op 4, .op 5, .op 6, .op 3, .look 6, .op 7, .op 8, .op 9]) (.ret [2]))))
noncomputable abbrev spword.u4.f (k : Nat) (rr38 : Ad → (V → M α) → (Int → M α) → M α) (x0 : Ad) (x1 : Ad) (x2 : Int) (kr : Int → M α) (kp : V → M α) : M α :=
  spword.u2.f k x0 x1 x2 (fun y0 y1 y2 => spword.u3.f k rr38 y0 y1 y2 kr kp) kp
noncomputable def spword.u4.c : IC := spword.u2.c spword.u3.c
noncomputable abbrev spword.u5.f (k : Nat) (rr38 : Ad → (V → M α) → (Int → M α) → M α) (x0 : Ad) (kr : Int → M α) (kp : V → M α) : M α :=
  spword.u1.f k x0 (fun y0 y1 y2 => spword.u4.f k rr38 y0 y1 y2 kr kp) kr kp
noncomputable def spword.u5.c : IC := spword.u1.c spword.u4.c
mutual
noncomputable def spformula.f : Nat → Ad → (V → M α) → (Int → M α) → M α
  | 0, _, _, _ => fail
  | k + 1, x0, pan, ret =>
    spformula.u1.f k (fun z0 z1 z2 z3 z4 z5 => sprow.f k z0 z1 z2 z3 z4 z5) x0 (fun y0 =>
      ret y0) pan
noncomputable def sprow.f : Nat → Ad → List UInt8 → Int → V → (V → M α) → (Int → M α) → M α
  | 0, _, _, _, _, _, _ => fail
  | k + 1, x0, x1, x2, x3, pan, ret =>
    sprow.u7.f k (fun z0 z1 z2 => spand.f k z0 z1 z2) (fun z0 z1 z2 => spunary.f k z0 z1 z2) x0 x1 x2 x3 (fun y0 =>
      ret y0) pan
noncomputable def spand.f : Nat → Ad → (V → M α) → (Int → M α) → M α
  | 0, _, _, _ => fail
  | k + 1, x0, pan, ret =>
    spand.u1.f k (fun z0 z1 z2 z3 z4 z5 => sprow.f k z0 z1 z2 z3 z4 z5) x0 (fun y0 =>
      ret y0) pan
noncomputable def spunary.f : Nat → Ad → (V → M α) → (Int → M α) → M α
  | 0, _, _, _ => fail
  | k + 1, x0, pan, ret =>
    spunary.u18.f k (fun z0 z1 z2 => spunary.f k z0 z1 z2) (fun z0 z1 z2 => spformula.f k z0 z1 z2) (fun z0 z1 z2 => spword.f k z0 z1 z2) x0 (fun y0 =>
      ret y0) pan
noncomputable def spword.f : Nat → Ad → (V → M α) → (Int → M α) → M α
  | 0, _, _, _ => fail
  | k + 1, x0, pan, ret =>
    spword.u5.f k (fun z0 z1 z2 => spformula.f k z0 z1 z2) x0 (fun y0 =>
      ret y0) pan
end
noncomputable def syntax_Parse.u1.f (k : Nat) (x0 : List UInt8) (kn : Ad → Ad → Sl → M α) (kr : Ad → Ad → M α) : M α :=
  new [.slice Sl.nil] fun f3 =>
  new [.nilIface] fun err4 =>
  scan_All.f k x0 fun r5 r6 =>
  need (Nat.beq (V.cells r6).length 1) <|
  stL err4 0 (V.cells r6) <|
  ld (err4.add 0) fun x7 =>
  asNil x7 fun b8 =>
  cond (!b8) (
    ld (err4.add 0) fun x9 =>
    st1 (f3.add 0) (.slice Sl.nil) <|
    skipped x9 (
      need (Nat.beq (V.cells x9).length 1) <|
      stL err4 0 (V.cells x9) <|
      kr f3 err4) (
      ld (err4.add 0) fun x10 =>
      lookL (V.cells x9) [x10] <|
      need (Nat.beq (V.cells x9).length 1) <|
      stL err4 0 (V.cells x9) <|
      kr f3 err4)) (
    kn f3 err4 r5)
noncomputable def syntax_Parse.u1.c (R : IC) : IC := (.seq (.ops 0 (opsOf Try.f21 0)) (.seq (.ops 1 (opsOf Try.f21 1)) (.seq (.cut [2, 3, 4] (.seq (.ops 2 (opsOf Try.f21 2)) (.cond (.tmp 12) (.seq (.drawn 3 (opsOf Try.f21 3) true [.op 0, .op 1, .look 0, .op 2]) (.ret [2, 3])) .skip))) R)))
noncomputable def syntax_Parse.u2.f (k : Nat) (x0 : Ad) (x1 : Ad) (x2 : Sl) (kr : Ad → Ad → M α) (kp : V → M α) : M α :=
  slices_DeleteFunc_Token_Token_37.f k x2 fun r5 =>
  new [.slice r5, .int .i64 0, .slice Sl.nil] fun x6 =>
  spformula.f k x6 (fun e14 =>
    kp e14) (
    fun r7 =>
    ldS ((x6.add 0).add 0) fun x8 =>
    idxSl x8 0 4 fun a9 =>
    ldI .i64 ((a9.add 0).add 0) fun x10 =>
    cond (!(decide (x10 = 0))) (
      spwrong.f k x6 (fun e12 =>
        kp e12) (
        ldS ((x6.add 2).add 0) fun x11 =>
        st1 (x0.add 0) (.slice x11) <|
        st1 (x1.add 0) (.nilIface) <|
        kr x0 x1)) (
      ldS ((x6.add 2).add 0) fun x13 =>
      st1 (x0.add 0) (.slice x13) <|
      st1 (x1.add 0) (.nilIface) <|
      kr x0 x1))
noncomputable def syntax_Parse.u2.c : IC := (.seq (.ops 5 (opsOf Try.f21 5)) (.seq (.ops 6 (opsOf Try.f21 6)) (.seq (.seq (.ops 7 (opsOf Try.f21 7)) (.cond (.tmp 28) (.ops 8 (opsOf Try.f21 8)) .skip)) (.seq (.ops 9 (opsOf Try.f21 9)) (.ret [2, 3])))))
noncomputable def syntax_Parse.as : List IC := [(.ops 0 (opsOf Try.f21 0)), (.ops 1 (opsOf Try.f21 1)), (.cut [2, 3, 4] (.seq (.ops 2 (opsOf Try.f21 2)) (.cond (.tmp 12) (.seq (.drawn 3 (opsOf Try.f21 3) true [.op 0, .op 1, .look 0, .op 2]) (.ret [2, 3])) .skip)))]
noncomputable def syntax_Parse.C.u1.f (k : Nat) (x0 : Ad) (x1 : Ad) (x2 : V) (kn : M α) : M α :=
  asNil x2 fun b5 =>
  cond (b5) (
    kn) (
    ifaceM x2 61 (fun w6 =>
      new [.int .i64 0, .int .i64 0] fun s7 =>
      need (Nat.beq (V.cells w6).length 2) <|
      stL s7 0 (V.cells w6) <|
      st1 (x0.add 0) (.slice Sl.nil) <|
      st1 (x1.add 0) (.iface 62 (.ptr (some (s7.add 0)))) <|
      kn) (
      fail))
noncomputable def syntax_Parse.C.u1.c : IC := (.cut [] (.block 0 (.seq (.ops 3 (opsOf Try.f35 3)) (.cond (.tmp 7) (.ops 4 (opsOf Try.f35 4)) (.seq (.ops 5 (opsOf Try.f35 5)) (.cond (.tmp 9) (.seq (.ops 6 (opsOf Try.f35 6)) (.ops 7 (opsOf Try.f35 7))) (.seq (.ops 1 (opsOf Try.f35 1)) (.dead (.region 2 (opsOf Try.f35 2) false)))))))))
noncomputable def syntax_Parse.f : Nat → List UInt8 → (Sl → V → M α) → M α
  | 0, _, _ => fail
  | k + 1, x0, ret =>
    syntax_Parse.u1.f k x0 (fun y0 y1 y2 =>
      syntax_Parse.u2.f k y0 y1 y2 (fun z0 z1 =>
        syntax_Parse.C.u1.f k y0 y1 .nilIface (
          ldS (z0.add 0) fun o501 =>
          ld (z1.add 0) fun o502 =>
          ret o501 o502)) (fun v =>
        syntax_Parse.C.u1.f k y0 y1 v (
          ldS (y0.add 0) fun o501 =>
          ld (y1.add 0) fun o502 =>
          ret o501 o502))) (fun y0 y1 =>
      ldS (y0.add 0) fun o501 =>
      ld (y1.add 0) fun o502 =>
      ret o501 o502)
noncomputable def slices_Clone_Node_Node.u1.f (k : Nat) (x0 : Sl) (kr : Sl → M α) : M α :=
  cond (x0.ad.isNone) (
    kr Sl.nil) (
    new [] fun r3 =>
    appRow (⟨some r3, 0, 0, none⟩ : Sl) 5 48 x0 fun x4 =>
    kr x4)
noncomputable def slices_Clone_Node_Node.u1.c : IC := (.seq (.ops 0 (opsOf Try.f45 0)) (.seq (.seq (.ops 1 (opsOf Try.f45 1)) (.cond (.tmp 4) (.seq (.ops 2 (opsOf Try.f45 2)) (.ret [2])) .skip)) (.seq (.ops 3 (opsOf Try.f45 3)) (.ret [2]))))
noncomputable def slices_Clone_Node_Node.f : Nat → Sl → (Sl → M α) → M α
  | 0, _, _ => fail
  | k + 1, x0, ret =>
    slices_Clone_Node_Node.u1.f k x0 (fun y0 =>
      ret y0)
noncomputable def syntax_spelt.u1.f (k : Nat) (x0 : List UInt8) (x1 : Int) (x2 : Int) (kn : List UInt8 → M α) (kr : Bool → M α) : M α :=
  cond (decide ((x0.length : Int) < 1)) (
    kr false) (
    cond (decide (8 < (x0.length : Int))) (
      kr false) (
      idxStr x0 0 fun c5 =>
      cond (decide (c5 < x1)) (
        kr false) (
        idxStr x0 0 fun c6 =>
        cond (decide (x2 < c6)) (
          kr false) (
          kn x0))))
noncomputable def syntax_spelt.u1.c (R : IC) : IC := (.seq (.ops 0 (opsOf Try.f62 0)) (.seq (.cut [0] (.seq (.ops 1 (opsOf Try.f62 1)) (.cond (.tmp 28) (.seq (.ops 2 (opsOf Try.f62 2)) (.ret [6])) .skip))) R))
noncomputable def syntax_spelt.u2.f (k : Nat) (x0 : List UInt8) (kn : List UInt8 → Int → Int → M α) : M α :=
  kn x0 (x0.length : Int) 0
noncomputable def syntax_spelt.u2.c (R : IC) : IC := (.seq (.cut [0, 30, 31] (.ops 3 (opsOf Try.f62 3))) R)
noncomputable def syntax_spelt.u3.f (k : Nat) (x0 : List UInt8) (x1 : Int) (x2 : Int) (kn : List UInt8 → Int → Int → M α) (kr : Bool → M α) (kx0 : M α) : M α :=
  cond (decide (x2 < x1)) (
    idxStr x0 x2 fun c5 =>
    cond (decide (bits .or .u8 c5 32 < 97)) (
      cond (decide (c5 < 48)) (
        cond (!(decide (c5 = 95))) (
          kr false) (
          kn x0 x1 (w64 (x2 + 1)))) (
        cond (decide (57 < c5)) (
          cond (!(decide (c5 = 95))) (
            kr false) (
            kn x0 x1 (w64 (x2 + 1)))) (
          kn x0 x1 (w64 (x2 + 1))))) (
      cond (decide (122 < bits .or .u8 c5 32)) (
        cond (decide (c5 < 48)) (
          cond (!(decide (c5 = 95))) (
            kr false) (
            kn x0 x1 (w64 (x2 + 1)))) (
          cond (decide (57 < c5)) (
            cond (!(decide (c5 = 95))) (
              kr false) (
              kn x0 x1 (w64 (x2 + 1)))) (
            kn x0 x1 (w64 (x2 + 1))))) (
        kn x0 x1 (w64 (x2 + 1))))) (
    kx0)
noncomputable def syntax_spelt.u3.c : IC := (.seq (.ops 4 (opsOf Try.f62 4)) (.seq (.cond (.tmp 32) .skip (.exit 0 [])) (.seq (.block 1 (.seq (.ops 5 (opsOf Try.f62 5)) (.seq (.ops 6 (opsOf Try.f62 6)) (.seq (.ops 7 (opsOf Try.f62 7)) (.cond (.tmp 56) (.seq (.ops 8 (opsOf Try.f62 8)) (.ret [6])) .skip))))) (.cut [0, 30, 31] (.ops 9 (opsOf Try.f62 9))))))
noncomputable def syntax_spelt.u4.l (k : Nat) (kr : Bool → M α) (kx0 : M α) : Nat → List UInt8 → Int → Int → M α
  | 0, _, _, _ => fail
  | j + 1, x0, x1, x2 =>
    syntax_spelt.u3.f k x0 x1 x2 (fun y0 y1 y2 => syntax_spelt.u4.l k kr kx0 j y0 y1 y2) kr kx0
noncomputable abbrev syntax_spelt.u4.f (k : Nat) (x0 : List UInt8) (x1 : Int) (x2 : Int) (kr : Bool → M α) (kx0 : M α) : M α :=
  syntax_spelt.u4.l k kr kx0 k x0 x1 x2
noncomputable def syntax_spelt.u4.c : IC := .loop [0, 30, 31] syntax_spelt.u3.c
noncomputable abbrev syntax_spelt.u5.f (k : Nat) (x0 : List UInt8) (x1 : Int) (x2 : Int) (kn : M α) (kr : Bool → M α) : M α :=
  syntax_spelt.u4.f k x0 x1 x2 kr (kn)
noncomputable def syntax_spelt.u5.c : IC := .block 0 syntax_spelt.u4.c
noncomputable abbrev syntax_spelt.u6.f (k : Nat) (x0 : List UInt8) (kn : M α) (kr : Bool → M α) : M α :=
  syntax_spelt.u2.f k x0 (fun y0 y1 y2 => syntax_spelt.u5.f k y0 y1 y2 kn kr)
noncomputable def syntax_spelt.u6.c : IC := syntax_spelt.u2.c syntax_spelt.u5.c
noncomputable def syntax_spelt.u7.f (k : Nat) (kr : Bool → M α) : M α :=
  kr true
noncomputable def syntax_spelt.u7.c : IC := (.seq (.ops 10 (opsOf Try.f62 10)) (.ret [6]))
noncomputable abbrev syntax_spelt.u8.f (k : Nat) (x0 : List UInt8) (kr : Bool → M α) : M α :=
  syntax_spelt.u6.f k x0 (syntax_spelt.u7.f k kr) kr
noncomputable def syntax_spelt.u8.c : IC := (.seq syntax_spelt.u6.c syntax_spelt.u7.c)
noncomputable abbrev syntax_spelt.u9.f (k : Nat) (x0 : List UInt8) (x1 : Int) (x2 : Int) (kr : Bool → M α) : M α :=
  syntax_spelt.u1.f k x0 x1 x2 (fun y0 => syntax_spelt.u8.f k y0 kr) kr
noncomputable def syntax_spelt.u9.c : IC := syntax_spelt.u1.c syntax_spelt.u8.c
noncomputable def syntax_spelt.f : Nat → List UInt8 → Int → Int → (Bool → M α) → M α
  | 0, _, _, _, _ => fail
  | k + 1, x0, x1, x2, ret =>
    syntax_spelt.u9.f k x0 x1 x2 (fun y0 =>
      ret y0)
noncomputable def syntax_name.u1.f (k : Nat) (x0 : List UInt8) (kr : Bool → M α) : M α :=
  syntax_spelt.f k x0 97 122 fun r3 =>
  cond (r3) (
    syntax_word.f k x0 fun r4 =>
    kr (!r4)) (
    kr false)
noncomputable def syntax_name.u1.c : IC := (.seq (.ops 0 (opsOf Try.f47 0)) (.seq (.ops 1 (opsOf Try.f47 1)) (.ret [2])))
noncomputable def syntax_name.f : Nat → List UInt8 → (Bool → M α) → M α
  | 0, _, _ => fail
  | k + 1, x0, ret =>
    syntax_name.u1.f k x0 (fun y0 =>
      ret y0)
noncomputable def syntax_variable.u1.f (k : Nat) (x0 : List UInt8) (kr : Bool → M α) : M α :=
  syntax_spelt.f k x0 65 90 fun r3 =>
  kr r3
noncomputable def syntax_variable.u1.c : IC := (.seq (.ops 0 (opsOf Try.f48 0)) (.seq (.ops 1 (opsOf Try.f48 1)) (.ret [2])))
noncomputable def syntax_variable.f : Nat → List UInt8 → (Bool → M α) → M α
  | 0, _, _ => fail
  | k + 1, x0, ret =>
    syntax_variable.u1.f k x0 (fun y0 =>
      ret y0)
noncomputable def syntax_below.u1.f (k : Nat) (x0 : Int) (x1 : Int) (x2 : Int) (x3 : List UInt8) (x4 : Int) (kr : Int → Bool → M α) : M α :=
  new [.int .i64 x0, .int .i64 x1, .int .i64 x2, .str x3, .int .i64 x4] fun n7 =>
  ldI .i64 ((n7.add 0).add 0) fun x8 =>
  cond (decide (x8 = 1)) (
    cond (decide (x8 = 1)) (
      ldStr ((n7.add 3).add 0) fun x9 =>
      kr 0 (decide (x9 = []))) (
      cond (decide (x8 = 3)) (
        ldStr ((n7.add 3).add 0) fun x10 =>
        syntax_name.f k x10 fun r11 =>
        kr 0 r11) (
        cond (decide (x8 = 4)) (
          ldStr ((n7.add 3).add 0) fun x12 =>
          syntax_variable.f k x12 fun r13 =>
          kr 0 r13) (
          cond (decide (x8 = 5)) (
            ldStr ((n7.add 3).add 0) fun x14 =>
            kr 1 (decide (x14 = []))) (
            cond (decide (x8 = 8)) (
              cond (decide (x8 = 8)) (
                ldStr ((n7.add 3).add 0) fun x15 =>
                cond (decide (x15 = [45])) (
                  kr 1 true) (
                  ldStr ((n7.add 3).add 0) fun x16 =>
                  syntax_name.f k x16 fun r17 =>
                  kr 1 r17)) (
                cond (decide (x8 = 10)) (
                  cond (decide (x8 = 10)) (
                    ldStr ((n7.add 3).add 0) fun x18 =>
                    syntax_variable.f k x18 fun r19 =>
                    kr 1 r19) (
                    cond (decide (x8 = 6)) (
                      cond (decide (x8 = 6)) (
                        ldStr ((n7.add 3).add 0) fun x20 =>
                        kr 2 (decide (x20 = []))) (
                        kr 0 false)) (
                      cond (decide (x8 = 7)) (
                        ldStr ((n7.add 3).add 0) fun x21 =>
                        kr 2 (decide (x21 = []))) (
                        kr 0 false)))) (
                  cond (decide (x8 = 11)) (
                    ldStr ((n7.add 3).add 0) fun x22 =>
                    syntax_variable.f k x22 fun r23 =>
                    kr 1 r23) (
                    cond (decide (x8 = 6)) (
                      cond (decide (x8 = 6)) (
                        ldStr ((n7.add 3).add 0) fun x24 =>
                        kr 2 (decide (x24 = []))) (
                        kr 0 false)) (
                      cond (decide (x8 = 7)) (
                        ldStr ((n7.add 3).add 0) fun x25 =>
                        kr 2 (decide (x25 = []))) (
                        kr 0 false)))))) (
              cond (decide (x8 = 9)) (
                ldStr ((n7.add 3).add 0) fun x26 =>
                cond (decide (x26 = [45])) (
                  kr 1 true) (
                  ldStr ((n7.add 3).add 0) fun x27 =>
                  syntax_name.f k x27 fun r28 =>
                  kr 1 r28)) (
                cond (decide (x8 = 10)) (
                  cond (decide (x8 = 10)) (
                    ldStr ((n7.add 3).add 0) fun x29 =>
                    syntax_variable.f k x29 fun r30 =>
                    kr 1 r30) (
                    cond (decide (x8 = 6)) (
                      cond (decide (x8 = 6)) (
                        ldStr ((n7.add 3).add 0) fun x31 =>
                        kr 2 (decide (x31 = []))) (
                        kr 0 false)) (
                      cond (decide (x8 = 7)) (
                        ldStr ((n7.add 3).add 0) fun x32 =>
                        kr 2 (decide (x32 = []))) (
                        kr 0 false)))) (
                  cond (decide (x8 = 11)) (
                    ldStr ((n7.add 3).add 0) fun x33 =>
                    syntax_variable.f k x33 fun r34 =>
                    kr 1 r34) (
                    cond (decide (x8 = 6)) (
                      cond (decide (x8 = 6)) (
                        ldStr ((n7.add 3).add 0) fun x35 =>
                        kr 2 (decide (x35 = []))) (
                        kr 0 false)) (
                      cond (decide (x8 = 7)) (
                        ldStr ((n7.add 3).add 0) fun x36 =>
                        kr 2 (decide (x36 = []))) (
                        kr 0 false))))))))))) (
    cond (decide (x8 = 2)) (
      ldStr ((n7.add 3).add 0) fun x37 =>
      kr 0 (decide (x37 = []))) (
      cond (decide (x8 = 3)) (
        ldStr ((n7.add 3).add 0) fun x38 =>
        syntax_name.f k x38 fun r39 =>
        kr 0 r39) (
        cond (decide (x8 = 4)) (
          ldStr ((n7.add 3).add 0) fun x40 =>
          syntax_variable.f k x40 fun r41 =>
          kr 0 r41) (
          cond (decide (x8 = 5)) (
            ldStr ((n7.add 3).add 0) fun x42 =>
            kr 1 (decide (x42 = []))) (
            cond (decide (x8 = 8)) (
              cond (decide (x8 = 8)) (
                ldStr ((n7.add 3).add 0) fun x43 =>
                cond (decide (x43 = [45])) (
                  kr 1 true) (
                  ldStr ((n7.add 3).add 0) fun x44 =>
                  syntax_name.f k x44 fun r45 =>
                  kr 1 r45)) (
                cond (decide (x8 = 10)) (
                  cond (decide (x8 = 10)) (
                    ldStr ((n7.add 3).add 0) fun x46 =>
                    syntax_variable.f k x46 fun r47 =>
                    kr 1 r47) (
                    cond (decide (x8 = 6)) (
                      cond (decide (x8 = 6)) (
                        ldStr ((n7.add 3).add 0) fun x48 =>
                        kr 2 (decide (x48 = []))) (
                        kr 0 false)) (
                      cond (decide (x8 = 7)) (
                        ldStr ((n7.add 3).add 0) fun x49 =>
                        kr 2 (decide (x49 = []))) (
                        kr 0 false)))) (
                  cond (decide (x8 = 11)) (
                    ldStr ((n7.add 3).add 0) fun x50 =>
                    syntax_variable.f k x50 fun r51 =>
                    kr 1 r51) (
                    cond (decide (x8 = 6)) (
                      cond (decide (x8 = 6)) (
                        ldStr ((n7.add 3).add 0) fun x52 =>
                        kr 2 (decide (x52 = []))) (
                        kr 0 false)) (
                      cond (decide (x8 = 7)) (
                        ldStr ((n7.add 3).add 0) fun x53 =>
                        kr 2 (decide (x53 = []))) (
                        kr 0 false)))))) (
              cond (decide (x8 = 9)) (
                ldStr ((n7.add 3).add 0) fun x54 =>
                cond (decide (x54 = [45])) (
                  kr 1 true) (
                  ldStr ((n7.add 3).add 0) fun x55 =>
                  syntax_name.f k x55 fun r56 =>
                  kr 1 r56)) (
                cond (decide (x8 = 10)) (
                  cond (decide (x8 = 10)) (
                    ldStr ((n7.add 3).add 0) fun x57 =>
                    syntax_variable.f k x57 fun r58 =>
                    kr 1 r58) (
                    cond (decide (x8 = 6)) (
                      cond (decide (x8 = 6)) (
                        ldStr ((n7.add 3).add 0) fun x59 =>
                        kr 2 (decide (x59 = []))) (
                        kr 0 false)) (
                      cond (decide (x8 = 7)) (
                        ldStr ((n7.add 3).add 0) fun x60 =>
                        kr 2 (decide (x60 = []))) (
                        kr 0 false)))) (
                  cond (decide (x8 = 11)) (
                    ldStr ((n7.add 3).add 0) fun x61 =>
                    syntax_variable.f k x61 fun r62 =>
                    kr 1 r62) (
                    cond (decide (x8 = 6)) (
                      cond (decide (x8 = 6)) (
                        ldStr ((n7.add 3).add 0) fun x63 =>
                        kr 2 (decide (x63 = []))) (
                        kr 0 false)) (
                      cond (decide (x8 = 7)) (
                        ldStr ((n7.add 3).add 0) fun x64 =>
                        kr 2 (decide (x64 = []))) (
                        kr 0 false)))))))))))
noncomputable def syntax_below.u1.c : IC := (.seq (.ops 0 (opsOf Try.f30 0)) (.seq (.seq (.ops 1 (opsOf Try.f30 1)) (.block 0 (.seq (.seq (.ops 2 (opsOf Try.f30 2)) (.cond (.tmp 6) .skip (.ops 3 (opsOf Try.f30 3)))) (.cond (.tmp 6) (.seq (.drawn 4 (opsOf Try.f30 4) true [.op 0, .op 1, .op 2, .op 3, .op 4]) (.ret [2, 3])) (.seq (.ops 5 (opsOf Try.f30 5)) (.cond (.tmp 12) (.seq (.ops 6 (opsOf Try.f30 6)) (.ret [2, 3])) (.seq (.ops 7 (opsOf Try.f30 7)) (.cond (.tmp 17) (.seq (.ops 8 (opsOf Try.f30 8)) (.ret [2, 3])) (.seq (.ops 9 (opsOf Try.f30 9)) (.cond (.tmp 22) (.seq (.drawn 10 (opsOf Try.f30 10) true [.op 0, .op 1, .op 2, .op 3, .op 4]) (.ret [2, 3])) (.seq (.seq (.ops 11 (opsOf Try.f30 11)) (.cond (.tmp 27) .skip (.ops 12 (opsOf Try.f30 12)))) (.cond (.tmp 27) (.seq (.ops 13 (opsOf Try.f30 13)) (.ret [2, 3])) (.seq (.seq (.ops 14 (opsOf Try.f30 14)) (.cond (.tmp 38) .skip (.ops 15 (opsOf Try.f30 15)))) (.cond (.tmp 38) (.seq (.ops 16 (opsOf Try.f30 16)) (.ret [2, 3])) (.seq (.seq (.ops 17 (opsOf Try.f30 17)) (.cond (.tmp 44) .skip (.ops 18 (opsOf Try.f30 18)))) (.cond (.tmp 44) (.seq (.drawn 19 (opsOf Try.f30 19) true [.op 0, .op 1, .op 2, .op 3, .op 4]) (.ret [2, 3])) .skip)))))))))))))))) (.seq (.ops 20 (opsOf Try.f30 20)) (.ret [2, 3]))))
noncomputable def syntax_below.f : Nat → Int → Int → Int → List UInt8 → Int → (Int → Bool → M α) → M α
  | 0, _, _, _, _, _, _ => fail
  | k + 1, x0, x1, x2, x3, x4, ret =>
    syntax_below.u1.f k x0 x1 x2 x3 x4 (fun y0 y1 =>
      ret y0 y1)
noncomputable def syntax_Right_c1.u1.f (k : Nat) (x0 : Int) (kr : Bool → M α) : M α :=
  kr (!(decide (x0 = 0)))
noncomputable def syntax_Right_c1.u1.c : IC := (.seq (.ops 0 (opsOf Try.f32 0)) (.seq (.ops 1 (opsOf Try.f32 1)) (.ret [2])))
noncomputable def syntax_Right_c1.f : Nat → Int → (Bool → M α) → M α
  | 0, _, _ => fail
  | k + 1, x0, ret =>
    syntax_Right_c1.u1.f k x0 (fun y0 =>
      ret y0)
noncomputable def slices_IndexFunc_int_int_32.u1.f (k : Nat) (x0 : Sl) (kn : Sl → M α) : M α :=
  kn x0
noncomputable def slices_IndexFunc_int_int_32.u1.c (R : IC) : IC := (.seq (.cut [0, 1] (.ops 0 (opsOf Try.f49 0))) R)
noncomputable def slices_IndexFunc_int_int_32.u2.f (k : Nat) (x0 : Sl) (kn : Sl → Int → Int → M α) : M α :=
  kn x0 (x0.len : Int) 0
noncomputable def slices_IndexFunc_int_int_32.u2.c (R : IC) : IC := (.seq (.cut [0, 1, 7, 8] (.ops 1 (opsOf Try.f49 1))) R)
noncomputable def slices_IndexFunc_int_int_32.u3.f (k : Nat) (x0 : Sl) (x1 : Int) (x2 : Int) (kn : Sl → Int → Int → M α) (kr : Int → M α) (kx0 : M α) : M α :=
  cond (decide (x2 < x1)) (
    idxSl x0 x2 1 fun a5 =>
    ldI .i64 (a5.add 0) fun x6 =>
    syntax_Right_c1.f k x6 fun r7 =>
    cond (r7) (
      kr x2) (
      kn x0 x1 (w64 (x2 + 1)))) (
    kx0)
noncomputable def slices_IndexFunc_int_int_32.u3.c : IC := (.seq (.ops 2 (opsOf Try.f49 2)) (.seq (.cond (.tmp 9) .skip (.exit 0 [])) (.seq (.block 1 (.seq (.ops 3 (opsOf Try.f49 3)) (.seq (.ops 4 (opsOf Try.f49 4)) (.cond (.tmp 16) (.seq (.ops 5 (opsOf Try.f49 5)) (.ret [4])) .skip)))) (.cut [0, 1, 7, 8] (.ops 6 (opsOf Try.f49 6))))))
noncomputable def slices_IndexFunc_int_int_32.u4.l (k : Nat) (kr : Int → M α) (kx0 : M α) : Nat → Sl → Int → Int → M α
  | 0, _, _, _ => fail
  | j + 1, x0, x1, x2 =>
    slices_IndexFunc_int_int_32.u3.f k x0 x1 x2 (fun y0 y1 y2 => slices_IndexFunc_int_int_32.u4.l k kr kx0 j y0 y1 y2) kr kx0
noncomputable abbrev slices_IndexFunc_int_int_32.u4.f (k : Nat) (x0 : Sl) (x1 : Int) (x2 : Int) (kr : Int → M α) (kx0 : M α) : M α :=
  slices_IndexFunc_int_int_32.u4.l k kr kx0 k x0 x1 x2
noncomputable def slices_IndexFunc_int_int_32.u4.c : IC := .loop [0, 1, 7, 8] slices_IndexFunc_int_int_32.u3.c
noncomputable abbrev slices_IndexFunc_int_int_32.u5.f (k : Nat) (x0 : Sl) (x1 : Int) (x2 : Int) (kn : M α) (kr : Int → M α) : M α :=
  slices_IndexFunc_int_int_32.u4.f k x0 x1 x2 kr (kn)
noncomputable def slices_IndexFunc_int_int_32.u5.c : IC := .block 0 slices_IndexFunc_int_int_32.u4.c
noncomputable abbrev slices_IndexFunc_int_int_32.u6.f (k : Nat) (x0 : Sl) (kn : M α) (kr : Int → M α) : M α :=
  slices_IndexFunc_int_int_32.u2.f k x0 (fun y0 y1 y2 => slices_IndexFunc_int_int_32.u5.f k y0 y1 y2 kn kr)
noncomputable def slices_IndexFunc_int_int_32.u6.c : IC := slices_IndexFunc_int_int_32.u2.c slices_IndexFunc_int_int_32.u5.c
noncomputable def slices_IndexFunc_int_int_32.u7.f (k : Nat) (kr : Int → M α) : M α :=
  kr (-1)
noncomputable def slices_IndexFunc_int_int_32.u7.c : IC := (.seq (.ops 7 (opsOf Try.f49 7)) (.ret [4]))
noncomputable abbrev slices_IndexFunc_int_int_32.u8.f (k : Nat) (x0 : Sl) (kr : Int → M α) : M α :=
  slices_IndexFunc_int_int_32.u6.f k x0 (slices_IndexFunc_int_int_32.u7.f k kr) kr
noncomputable def slices_IndexFunc_int_int_32.u8.c : IC := (.seq slices_IndexFunc_int_int_32.u6.c slices_IndexFunc_int_int_32.u7.c)
noncomputable abbrev slices_IndexFunc_int_int_32.u9.f (k : Nat) (x0 : Sl) (kr : Int → M α) : M α :=
  slices_IndexFunc_int_int_32.u1.f k x0 (fun y0 => slices_IndexFunc_int_int_32.u8.f k y0 kr)
noncomputable def slices_IndexFunc_int_int_32.u9.c : IC := slices_IndexFunc_int_int_32.u1.c slices_IndexFunc_int_int_32.u8.c
noncomputable def slices_IndexFunc_int_int_32.f : Nat → Sl → (Int → M α) → M α
  | 0, _, _ => fail
  | k + 1, x0, ret =>
    slices_IndexFunc_int_int_32.u9.f k x0 (fun y0 =>
      ret y0)
noncomputable def slices_ContainsFunc_int_int_32.u1.f (k : Nat) (x0 : Sl) (kr : Bool → M α) : M α :=
  slices_IndexFunc_int_int_32.f k x0 fun r3 =>
  kr (decide (0 ≤ r3))
noncomputable def slices_ContainsFunc_int_int_32.u1.c : IC := (.seq (.ops 0 (opsOf Try.f31 0)) (.seq (.ops 1 (opsOf Try.f31 1)) (.ret [4])))
noncomputable def slices_ContainsFunc_int_int_32.f : Nat → Sl → (Bool → M α) → M α
  | 0, _, _ => fail
  | k + 1, x0, ret =>
    slices_ContainsFunc_int_int_32.u1.f k x0 (fun y0 =>
      ret y0)
noncomputable def slEq.u1.f (k : Nat) (x0 : Sl) (x1 : Sl) (kn : Sl → Sl → M α) (kr : Bool → M α) : M α :=
  cond (!(decide ((x0.len : Int) = (x1.len : Int)))) (
    kr false) (
    kn x0 x1)
noncomputable def slEq.u1.c (R : IC) : IC := (.seq (.ops 0 (opsOf Try.f33 0)) (.seq (.cut [0, 1] (.seq (.ops 1 (opsOf Try.f33 1)) (.cond (.tmp 10) (.seq (.ops 2 (opsOf Try.f33 2)) (.ret [4])) .skip))) R))
noncomputable def slEq.u2.f (k : Nat) (x0 : Sl) (x1 : Sl) (kn : Sl → Sl → Int → Int → M α) : M α :=
  kn x0 x1 (x0.len : Int) 0
noncomputable def slEq.u2.c (R : IC) : IC := (.seq (.cut [0, 1, 12, 13] (.ops 3 (opsOf Try.f33 3))) R)
noncomputable def slEq.u3.f (k : Nat) (x0 : Sl) (x1 : Sl) (x2 : Int) (x3 : Int) (kn : Sl → Sl → Int → Int → M α) (kr : Bool → M α) (kx0 : M α) : M α :=
  cond (decide (x3 < x2)) (
    idxSl x0 x3 1 fun a6 =>
    ldI .i64 (a6.add 0) fun x7 =>
    idxSl x1 x3 1 fun a8 =>
    ldI .i64 (a8.add 0) fun x9 =>
    cond (!(decide (x7 = x9))) (
      kr false) (
      kn x0 x1 x2 (w64 (x3 + 1)))) (
    kx0)
noncomputable def slEq.u3.c : IC := (.seq (.ops 4 (opsOf Try.f33 4)) (.seq (.cond (.tmp 14) .skip (.exit 0 [])) (.seq (.block 1 (.seq (.ops 5 (opsOf Try.f33 5)) (.seq (.drawn 6 (opsOf Try.f33 6) true [.op 0, .op 1, .op 2, .op 3, .op 4, .op 5, .op 6, .op 7, .op 8]) (.cond (.tmp 24) (.seq (.ops 7 (opsOf Try.f33 7)) (.ret [4])) .skip)))) (.cut [0, 1, 12, 13] (.ops 8 (opsOf Try.f33 8))))))
noncomputable def slEq.u4.l (k : Nat) (kr : Bool → M α) (kx0 : M α) : Nat → Sl → Sl → Int → Int → M α
  | 0, _, _, _, _ => fail
  | j + 1, x0, x1, x2, x3 =>
    slEq.u3.f k x0 x1 x2 x3 (fun y0 y1 y2 y3 => slEq.u4.l k kr kx0 j y0 y1 y2 y3) kr kx0
noncomputable abbrev slEq.u4.f (k : Nat) (x0 : Sl) (x1 : Sl) (x2 : Int) (x3 : Int) (kr : Bool → M α) (kx0 : M α) : M α :=
  slEq.u4.l k kr kx0 k x0 x1 x2 x3
noncomputable def slEq.u4.c : IC := .loop [0, 1, 12, 13] slEq.u3.c
noncomputable abbrev slEq.u5.f (k : Nat) (x0 : Sl) (x1 : Sl) (x2 : Int) (x3 : Int) (kn : M α) (kr : Bool → M α) : M α :=
  slEq.u4.f k x0 x1 x2 x3 kr (kn)
noncomputable def slEq.u5.c : IC := .block 0 slEq.u4.c
noncomputable abbrev slEq.u6.f (k : Nat) (x0 : Sl) (x1 : Sl) (kn : M α) (kr : Bool → M α) : M α :=
  slEq.u2.f k x0 x1 (fun y0 y1 y2 y3 => slEq.u5.f k y0 y1 y2 y3 kn kr)
noncomputable def slEq.u6.c : IC := slEq.u2.c slEq.u5.c
noncomputable def slEq.u7.f (k : Nat) (kr : Bool → M α) : M α :=
  kr true
noncomputable def slEq.u7.c : IC := (.seq (.ops 9 (opsOf Try.f33 9)) (.ret [4]))
noncomputable abbrev slEq.u8.f (k : Nat) (x0 : Sl) (x1 : Sl) (kr : Bool → M α) : M α :=
  slEq.u6.f k x0 x1 (slEq.u7.f k kr) kr
noncomputable def slEq.u8.c : IC := (.seq slEq.u6.c slEq.u7.c)
noncomputable abbrev slEq.u9.f (k : Nat) (x0 : Sl) (x1 : Sl) (kr : Bool → M α) : M α :=
  slEq.u1.f k x0 x1 (fun y0 y1 => slEq.u8.f k y0 y1 kr) kr
noncomputable def slEq.u9.c : IC := slEq.u1.c slEq.u8.c
noncomputable def slEq.f : Nat → Sl → Sl → (Bool → M α) → M α
  | 0, _, _, _ => fail
  | k + 1, x0, x1, ret =>
    slEq.u9.f k x0 x1 (fun y0 =>
      ret y0)
noncomputable def syntax_Right.u1.f (k : Nat) (x0 : Sl) (kn : Sl → Sl → M α) (kr : Bool → M α) : M α :=
  cond (decide ((x0.len : Int) < 1)) (
    kr false) (
    cond (decide (60 < (x0.len : Int))) (
      kr false) (
      kn x0 Sl.nil))
noncomputable def syntax_Right.u1.c (R : IC) : IC := (.seq (.ops 0 (opsOf Try.f20 0)) (.seq (.seq (.ops 1 (opsOf Try.f20 1)) (.cond (.tmp 16) (.seq (.ops 2 (opsOf Try.f20 2)) (.ret [2])) .skip)) (.seq (.cut [0, 3] (.ops 3 (opsOf Try.f20 3))) R)))
noncomputable def syntax_Right.u2.f (k : Nat) (x0 : Sl) (x1 : Sl) (kn : Sl → Sl → Int → Int → M α) : M α :=
  kn x1 x0 (x0.len : Int) 0
noncomputable def syntax_Right.u2.c (R : IC) : IC := (.seq (.cut [3, 17, 18, 19] (.ops 4 (opsOf Try.f20 4))) R)
noncomputable def syntax_Right.u3.f (k : Nat) (x0 : Sl) (x1 : Sl) (x2 : Int) (x3 : Int) (kn : Sl → Sl → Int → Int → M α) (kr : Bool → M α) (kx0 : Sl → M α) : M α :=
  cond (decide (x3 < x2)) (
    idxSl x1 x3 5 fun a6 =>
    ldI .i64 (a6.add 0) fun x7 =>
    ldI .i64 (a6.add 1) fun x8 =>
    ldI .i64 (a6.add 2) fun x9 =>
    ldStr (a6.add 3) fun x10 =>
    ldI .i64 (a6.add 4) fun x11 =>
    new [.int .i64 0, .int .i64 0, .int .i64 0, .str [], .int .i64 0] fun n12 =>
    st1 (n12.add 0) (.int .i64 x7) <|
    st1 (n12.add 1) (.int .i64 x8) <|
    st1 (n12.add 2) (.int .i64 x9) <|
    st1 (n12.add 3) (.str x10) <|
    st1 (n12.add 4) (.int .i64 x11) <|
    ldI .i64 (n12.add 0) fun x13 =>
    ldI .i64 (n12.add 1) fun x14 =>
    ldI .i64 (n12.add 2) fun x15 =>
    ldStr (n12.add 3) fun x16 =>
    ldI .i64 (n12.add 4) fun x17 =>
    syntax_below.f k x13 x14 x15 x16 x17 fun r18 r19 =>
    cond (!r19) (
      kr false) (
      cond (decide ((x0.len : Int) < r18)) (
        kr false) (
        ldI .i64 ((n12.add 1).add 0) fun x20 =>
        ldI .i64 ((n12.add 2).add 0) fun x21 =>
        new [.int .i64 x20, .int .i64 x21] fun r22 =>
        cutSl (⟨some r22, 2, 2, none⟩ : Sl) 1 (some r18) none none fun x23 =>
        slices_ContainsFunc_int_int_32.f k x23 fun r24 =>
        cond (r24) (
          kr false) (
          cutSl x0 1 (some (w64 ((x0.len : Int) - r18))) none none fun x25 =>
          cutSl (⟨some r22, 2, 2, none⟩ : Sl) 1 none (some r18) none fun x26 =>
          slEq.f k x25 x26 fun r27 =>
          cond (!r27) (
            kr false) (
            cutSl x0 1 none (some (w64 ((x0.len : Int) - r18))) none fun x28 =>
            new [.int .i64 x3] fun r29 =>
            appRow x28 1 8 (⟨some r29, 1, 1, none⟩ : Sl) fun x30 =>
            kn x30 x1 x2 (w64 (x3 + 1))))))) (
    kx0 x0)
noncomputable def syntax_Right.u3.c : IC := (.seq (.ops 5 (opsOf Try.f20 5)) (.seq (.cond (.tmp 20) .skip (.exit 0 [3])) (.seq (.block 1 (.seq (.ops 6 (opsOf Try.f20 6)) (.seq (.ops 7 (opsOf Try.f20 7)) (.seq (.seq (.ops 8 (opsOf Try.f20 8)) (.cond (.tmp 36) (.seq (.ops 9 (opsOf Try.f20 9)) (.ret [2])) .skip)) (.seq (.ops 10 (opsOf Try.f20 10)) (.seq (.seq (.drawn 11 (opsOf Try.f20 11) true [.op 0, .op 1, .op 2, .op 3, .op 4, .op 5, .op 6, .op 7, .op 8, .op 9, .op 10, .op 11, .op 12, .op 13, .op 14, .op 15, .op 16]) (.cond (.tmp 58) (.seq (.ops 12 (opsOf Try.f20 12)) (.ret [2])) .skip)) (.ops 13 (opsOf Try.f20 13)))))))) (.cut [3, 17, 18, 19] (.ops 14 (opsOf Try.f20 14))))))
noncomputable def syntax_Right.u4.l (k : Nat) (kr : Bool → M α) (kx0 : Sl → M α) : Nat → Sl → Sl → Int → Int → M α
  | 0, _, _, _, _ => fail
  | j + 1, x0, x1, x2, x3 =>
    syntax_Right.u3.f k x0 x1 x2 x3 (fun y0 y1 y2 y3 => syntax_Right.u4.l k kr kx0 j y0 y1 y2 y3) kr kx0
noncomputable abbrev syntax_Right.u4.f (k : Nat) (x0 : Sl) (x1 : Sl) (x2 : Int) (x3 : Int) (kr : Bool → M α) (kx0 : Sl → M α) : M α :=
  syntax_Right.u4.l k kr kx0 k x0 x1 x2 x3
noncomputable def syntax_Right.u4.c : IC := .loop [3, 17, 18, 19] syntax_Right.u3.c
noncomputable abbrev syntax_Right.u5.f (k : Nat) (x0 : Sl) (x1 : Sl) (x2 : Int) (x3 : Int) (kn : Sl → M α) (kr : Bool → M α) : M α :=
  syntax_Right.u4.f k x0 x1 x2 x3 kr (fun y0 => kn y0)
noncomputable def syntax_Right.u5.c : IC := .block 0 syntax_Right.u4.c
noncomputable abbrev syntax_Right.u6.f (k : Nat) (x0 : Sl) (x1 : Sl) (kn : Sl → M α) (kr : Bool → M α) : M α :=
  syntax_Right.u2.f k x0 x1 (fun y0 y1 y2 y3 => syntax_Right.u5.f k y0 y1 y2 y3 kn kr)
noncomputable def syntax_Right.u6.c : IC := syntax_Right.u2.c syntax_Right.u5.c
noncomputable def syntax_Right.u7.f (k : Nat) (x0 : Sl) (kr : Bool → M α) : M α :=
  kr (decide ((x0.len : Int) = 1))
noncomputable def syntax_Right.u7.c : IC := (.seq (.ops 15 (opsOf Try.f20 15)) (.ret [2]))
noncomputable abbrev syntax_Right.u8.f (k : Nat) (x0 : Sl) (x1 : Sl) (kr : Bool → M α) : M α :=
  syntax_Right.u6.f k x0 x1 (fun y0 => syntax_Right.u7.f k y0 kr) kr
noncomputable def syntax_Right.u8.c : IC := (.seq syntax_Right.u6.c syntax_Right.u7.c)
noncomputable abbrev syntax_Right.u9.f (k : Nat) (x0 : Sl) (kr : Bool → M α) : M α :=
  syntax_Right.u1.f k x0 (fun y0 y1 => syntax_Right.u8.f k y0 y1 kr) kr
noncomputable def syntax_Right.u9.c : IC := syntax_Right.u1.c syntax_Right.u8.c
noncomputable def syntax_Right.f : Nat → Sl → (Bool → M α) → M α
  | 0, _, _ => fail
  | k + 1, x0, ret =>
    syntax_Right.u9.f k x0 (fun y0 =>
      ret y0)
noncomputable def bwfind.u1.f (k : Nat) (x0 : Ad) (x1 : List UInt8) (kn : Ad → List UInt8 → Ad → M α) : M α :=
  new [.int .i64 0, .int .i64 0] fun x4 =>
  kn x0 x1 x4
noncomputable def bwfind.u1.c (R : IC) : IC := (.seq (.cut [0, 1, 4] (.ops 0 (opsOf Try.f61 0))) R)
noncomputable def bwfind.u2.f (k : Nat) (x0 : Ad) (x1 : List UInt8) (x2 : Ad) (kn : Ad → List UInt8 → Ad → Int → M α) : M α :=
  ldS ((x0.add 1).add 0) fun x5 =>
  kn x0 x1 x2 (w64 ((x5.len : Int) - 1))
noncomputable def bwfind.u2.c (R : IC) : IC := (.seq (.cut [0, 1, 4, 6] (.ops 1 (opsOf Try.f61 1))) R)
noncomputable def bwfind.u3.f (k : Nat) (x0 : Ad) (x1 : List UInt8) (x2 : Ad) (x3 : Int) (kn : Ad → List UInt8 → Ad → Int → M α) (kr : Ad → Bool → M α) (kx0 : Ad → M α) : M α :=
  cond (decide (0 ≤ x3)) (
    ldS ((x0.add 0).add 0) fun x6 =>
    ldS ((x0.add 1).add 0) fun x7 =>
    idxSl x7 x3 2 fun a8 =>
    ldI .i64 ((a8.add 0).add 0) fun x9 =>
    idxSl x6 x9 5 fun a10 =>
    ldStr ((a10.add 3).add 0) fun x11 =>
    cond (decide (x11 = x1)) (
      ldS ((x0.add 1).add 0) fun x12 =>
      idxSl x12 x3 2 fun a13 =>
      ldI .i64 (a13.add 0) fun x14 =>
      ldI .i64 (a13.add 1) fun x15 =>
      st1 (x2.add 0) (.int .i64 x14) <|
      st1 (x2.add 1) (.int .i64 x15) <|
      kr x2 true) (
      kn x0 x1 x2 (w64 (x3 - 1)))) (
    kx0 x2)
noncomputable def bwfind.u3.c : IC := (.seq (.seq (.ops 2 (opsOf Try.f61 2)) (.cond (.tmp 14) .skip (.exit 0 [4]))) (.seq (.block 1 (.seq (.drawn 4 (opsOf Try.f61 4) true [.op 0, .op 1, .op 2, .op 3, .op 4, .op 5, .op 6, .op 7, .op 8, .op 9, .op 10, .op 11, .op 12, .op 13, .op 14, .op 15, .op 16]) (.cond (.tmp 33) (.seq (.ops 5 (opsOf Try.f61 5)) (.ret [4, 5])) .skip))) (.cut [0, 1, 4, 6] (.ops 3 (opsOf Try.f61 3)))))
noncomputable def bwfind.u4.l (k : Nat) (kr : Ad → Bool → M α) (kx0 : Ad → M α) : Nat → Ad → List UInt8 → Ad → Int → M α
  | 0, _, _, _, _ => fail
  | j + 1, x0, x1, x2, x3 =>
    bwfind.u3.f k x0 x1 x2 x3 (fun y0 y1 y2 y3 => bwfind.u4.l k kr kx0 j y0 y1 y2 y3) kr kx0
noncomputable abbrev bwfind.u4.f (k : Nat) (x0 : Ad) (x1 : List UInt8) (x2 : Ad) (x3 : Int) (kr : Ad → Bool → M α) (kx0 : Ad → M α) : M α :=
  bwfind.u4.l k kr kx0 k x0 x1 x2 x3
noncomputable def bwfind.u4.c : IC := .loop [0, 1, 4, 6] bwfind.u3.c
noncomputable abbrev bwfind.u5.f (k : Nat) (x0 : Ad) (x1 : List UInt8) (x2 : Ad) (x3 : Int) (kn : Ad → M α) (kr : Ad → Bool → M α) : M α :=
  bwfind.u4.f k x0 x1 x2 x3 kr (fun y0 => kn y0)
noncomputable def bwfind.u5.c : IC := .block 0 bwfind.u4.c
noncomputable abbrev bwfind.u6.f (k : Nat) (x0 : Ad) (x1 : List UInt8) (x2 : Ad) (kn : Ad → M α) (kr : Ad → Bool → M α) : M α :=
  bwfind.u2.f k x0 x1 x2 (fun y0 y1 y2 y3 => bwfind.u5.f k y0 y1 y2 y3 kn kr)
noncomputable def bwfind.u6.c : IC := bwfind.u2.c bwfind.u5.c
noncomputable def bwfind.u7.f (k : Nat) (x0 : Ad) (kr : Ad → Bool → M α) : M α :=
  st1 (x0.add 0) (.int .i64 0) <|
  st1 (x0.add 1) (.int .i64 0) <|
  kr x0 false
noncomputable def bwfind.u7.c : IC := (.seq (.ops 6 (opsOf Try.f61 6)) (.ret [4, 5]))
noncomputable abbrev bwfind.u8.f (k : Nat) (x0 : Ad) (x1 : List UInt8) (x2 : Ad) (kr : Ad → Bool → M α) : M α :=
  bwfind.u6.f k x0 x1 x2 (fun y0 => bwfind.u7.f k y0 kr) kr
noncomputable def bwfind.u8.c : IC := (.seq bwfind.u6.c bwfind.u7.c)
noncomputable abbrev bwfind.u9.f (k : Nat) (x0 : Ad) (x1 : List UInt8) (kr : Ad → Bool → M α) : M α :=
  bwfind.u1.f k x0 x1 (fun y0 y1 y2 => bwfind.u8.f k y0 y1 y2 kr)
noncomputable def bwfind.u9.c : IC := bwfind.u1.c bwfind.u8.c
noncomputable def bwfind.f : Nat → Ad → List UInt8 → (Int → Int → Bool → M α) → M α
  | 0, _, _, _ => fail
  | k + 1, x0, x1, ret =>
    bwfind.u9.f k x0 x1 (fun y0 y1 =>
      ldI .i64 (y0.add 0) fun o501 =>
      ldI .i64 (y0.add 1) fun o502 =>
      ret o501 o502 y1)
noncomputable def bwnode.u1.f (k : Nat) (x0 : Ad) (x1 : Int) (kn : Ad → Int → Ad → Int → M α) : M α :=
  ldS ((x0.add 0).add 0) fun x4 =>
  idxSl x4 x1 5 fun a5 =>
  ldI .i64 (a5.add 0) fun x6 =>
  ldI .i64 (a5.add 1) fun x7 =>
  ldI .i64 (a5.add 2) fun x8 =>
  ldStr (a5.add 3) fun x9 =>
  ldI .i64 (a5.add 4) fun x10 =>
  new [.int .i64 0, .int .i64 0, .int .i64 0, .str [], .int .i64 0] fun x11 =>
  st1 (x11.add 0) (.int .i64 x6) <|
  st1 (x11.add 1) (.int .i64 x7) <|
  st1 (x11.add 2) (.int .i64 x8) <|
  st1 (x11.add 3) (.str x9) <|
  st1 (x11.add 4) (.int .i64 x10) <|
  ldI .i64 ((x11.add 0).add 0) fun x12 =>
  kn x0 x1 x11 x12
noncomputable def bwnode.u1.c (R : IC) : IC := (.seq (.ops 0 (opsOf Try.f46 0)) (.seq (.cut [0, 1, 4, 15] (.ops 1 (opsOf Try.f46 1))) R))
noncomputable def bwnode.u2.f (k : Nat) (x0 : Ad) (x1 : Int) (x2 : Ad) (x3 : Int) (kn : Ad → Int → Ad → Int → Bool → M α) : M α :=
  kn x0 x1 x2 x3 (decide (x3 = 4))
noncomputable def bwnode.u2.c (R : IC) : IC := (.seq (.cut [0, 1, 4, 15, 16] (.ops 2 (opsOf Try.f46 2))) R)
noncomputable def bwnode.u3.f (k : Nat) (x0 : Ad) (x1 : Int) (x2 : Ad) (x3 : Int) (x4 : Bool) (kn : M α) : M α :=
  ldStr ((x2.add 3).add 0) fun x7 =>
  bwfind.f k x0 x7 fun r8 r9 r10 =>
  new [.int .i64 0, .int .i64 0] fun s11 =>
  st1 (s11.add 0) (.int .i64 r8) <|
  st1 (s11.add 1) (.int .i64 r9) <|
  cond (r10) (
    ldS ((x0.add 3).add 0) fun x12 =>
    ldS ((x0.add 4).add 0) fun x13 =>
    ldI .i64 ((s11.add 0).add 0) fun x14 =>
    ldI .i64 ((x0.add 2).add 0) fun x15 =>
    ldI .i64 ((s11.add 1).add 0) fun x16 =>
    idxSl x12 x1 1 fun a17 =>
    st1 (a17.add 0) (.int .i64 x14) <|
    ldI .i64 ((s11.add 1).add 0) fun y18 =>
    need (decide (x16 = y18)) <|
    idxSl x13 x1 1 fun a19 =>
    st1 (a19.add 0) (.bool (!(decide (Int.tmod (w64 (x15 - x16)) 2 = 0)))) <|
    kn) (
    kn)
noncomputable def bwnode.u3.c : IC := (.seq (.ops 3 (opsOf Try.f46 3)) (.seq (.ops 4 (opsOf Try.f46 4)) (.cut [] (.cond (.tmp 25) (.drawn 5 (opsOf Try.f46 5) true [.op 0, .op 1, .op 2, .op 3, .op 4, .op 5, .op 6, .op 7, .op 8, .op 9, .op 10, .op 11, .op 12, .op 13, .op 14, .op 15, .op 16, .op 17, .op 18, .op 19, .op 20, .op 21, .op 22, .look 17, .op 23, .op 24]) .skip))))
noncomputable def bwnode.u4.f (k : Nat) (x0 : Ad) (x1 : Int) (x2 : Ad) (x3 : Int) (x4 : Bool) (kn : Ad → Int → Ad → Int → Bool → M α) : M α :=
  kn x0 x1 x2 x3 (decide (x3 = 5))
noncomputable def bwnode.u4.c (R : IC) : IC := (.seq (.cut [0, 1, 4, 15, 49] (.ops 6 (opsOf Try.f46 6))) R)
noncomputable def bwnode.u5.f (k : Nat) (rr46 : Ad → Int → (M α) → M α) (x0 : Ad) (x1 : Int) (x2 : Ad) (x3 : Int) (x4 : Bool) (kn : M α) : M α :=
  ldI .i64 ((x0.add 2).add 0) fun x7 =>
  st1 ((x0.add 2).add 0) (.int .i64 (w64 (x7 + 1))) <|
  ldI .i64 ((x2.add 1).add 0) fun x8 =>
  rr46 x0 x8 (
    ldI .i64 ((x0.add 2).add 0) fun x9 =>
    st1 ((x0.add 2).add 0) (.int .i64 (w64 (x9 - 1))) <|
    ldS ((x0.add 5).add 0) fun x10 =>
    ldS ((x0.add 5).add 0) fun x11 =>
    ldI .i64 ((x2.add 1).add 0) fun x12 =>
    idxSl x11 x12 1 fun a13 =>
    ldI .i64 (a13.add 0) fun x14 =>
    idxSl x10 x1 1 fun a15 =>
    st1 (a15.add 0) (.int .i64 x14) <|
    kn)
noncomputable def bwnode.u5.c : IC := (.seq (.ops 7 (opsOf Try.f46 7)) (.seq (.ops 8 (opsOf Try.f46 8)) (.seq (.ops 9 (opsOf Try.f46 9)) (.cut [] (.drawn 10 (opsOf Try.f46 10) true [.op 0, .op 1, .op 2, .op 3, .op 4, .op 5, .op 6, .op 7, .op 8, .op 9, .op 10, .op 11, .op 12, .op 13, .op 14])))))
noncomputable def bwnode.u6.f (k : Nat) (x0 : Ad) (x1 : Int) (x2 : Ad) (x3 : Int) (x4 : Bool) (kn : Ad → Int → Ad → Int → Bool → M α) : M α :=
  cond (decide (x3 = 8)) (
    kn x0 x1 x2 x3 (decide (x3 = 8))) (
    kn x0 x1 x2 x3 (decide (x3 = 9)))
noncomputable def bwnode.u6.c (R : IC) : IC := (.seq (.cut [0, 1, 4, 15, 83] (.seq (.ops 11 (opsOf Try.f46 11)) (.cond (.tmp 83) .skip (.ops 12 (opsOf Try.f46 12))))) R)
noncomputable def bwnode.u7.f (k : Nat) (rr46 : Ad → Int → (M α) → M α) (x0 : Ad) (x1 : Int) (x2 : Ad) (x3 : Int) (x4 : Bool) (kn : M α) : M α :=
  ldI .i64 ((x2.add 1).add 0) fun x7 =>
  rr46 x0 x7 (
    ldS ((x0.add 5).add 0) fun x8 =>
    ldS ((x0.add 5).add 0) fun x9 =>
    ldI .i64 ((x2.add 1).add 0) fun x10 =>
    idxSl x9 x10 1 fun a11 =>
    ldI .i64 (a11.add 0) fun x12 =>
    idxSl x8 x1 1 fun a13 =>
    st1 (a13.add 0) (.int .i64 x12) <|
    kn)
noncomputable def bwnode.u7.c : IC := (.seq (.ops 13 (opsOf Try.f46 13)) (.cut [] (.drawn 14 (opsOf Try.f46 14) true [.op 0, .op 1, .op 2, .op 3, .op 4, .op 5, .op 6, .op 7, .op 8, .op 9, .op 10, .op 11, .op 12, .op 13, .op 14])))
noncomputable def bwnode.u8.f (k : Nat) (x0 : Ad) (x1 : Int) (x2 : Ad) (x3 : Int) (x4 : Bool) (kn : Ad → Int → Ad → Int → Bool → M α) : M α :=
  cond (decide (x3 = 6)) (
    kn x0 x1 x2 x3 (decide (x3 = 6))) (
    kn x0 x1 x2 x3 (decide (x3 = 7)))
noncomputable def bwnode.u8.c (R : IC) : IC := (.seq (.cut [0, 1, 4, 15, 104] (.seq (.ops 15 (opsOf Try.f46 15)) (.cond (.tmp 104) .skip (.ops 16 (opsOf Try.f46 16))))) R)
noncomputable def bwnode.u9.f (k : Nat) (rr46 : Ad → Int → (M α) → M α) (x0 : Ad) (x1 : Int) (x2 : Ad) (x3 : Int) (x4 : Bool) (kn : M α) : M α :=
  ldI .i64 ((x2.add 1).add 0) fun x7 =>
  rr46 x0 x7 (
    ldI .i64 ((x2.add 2).add 0) fun x8 =>
    rr46 x0 x8 (
      ldS ((x0.add 5).add 0) fun x9 =>
      ldS ((x0.add 5).add 0) fun x10 =>
      ldI .i64 ((x2.add 1).add 0) fun x11 =>
      idxSl x10 x11 1 fun a12 =>
      ldI .i64 (a12.add 0) fun x13 =>
      ldS ((x0.add 5).add 0) fun x14 =>
      ldI .i64 ((x2.add 2).add 0) fun x15 =>
      idxSl x14 x15 1 fun a16 =>
      ldI .i64 (a16.add 0) fun x17 =>
      idxSl x9 x1 1 fun a18 =>
      st1 (a18.add 0) (.int .i64 (if x17 > x13 then x17 else x13)) <|
      kn))
noncomputable def bwnode.u9.c : IC := (.seq (.ops 17 (opsOf Try.f46 17)) (.seq (.ops 18 (opsOf Try.f46 18)) (.cut [] (.drawn 19 (opsOf Try.f46 19) true [.op 0, .op 1, .op 2, .op 3, .op 4, .op 5, .op 6, .op 7, .op 8, .op 9, .op 10, .op 11, .op 12, .op 13, .op 14, .op 15, .op 16, .op 17, .op 18, .op 19, .op 20, .op 21, .op 22, .op 23]))))
noncomputable def bwnode.u10.f (k : Nat) (x0 : Ad) (x1 : Int) (x2 : Ad) (x3 : Int) (x4 : Bool) (kn : Ad → Int → Ad → Bool → M α) : M α :=
  cond (decide (x3 = 10)) (
    kn x0 x1 x2 (decide (x3 = 10))) (
    kn x0 x1 x2 (decide (x3 = 11)))
noncomputable def bwnode.u10.c (R : IC) : IC := (.seq (.cut [0, 1, 4, 138] (.seq (.ops 20 (opsOf Try.f46 20)) (.cond (.tmp 138) .skip (.ops 21 (opsOf Try.f46 21))))) R)
noncomputable def bwnode.u11.f (k : Nat) (rr46 : Ad → Int → (M α) → M α) (x0 : Ad) (x1 : Int) (x2 : Ad) (x3 : Bool) (kn : M α) : M α :=
  cond (x3) (
    ldS ((x0.add 1).add 0) fun x6 =>
    ldI .i64 ((x0.add 2).add 0) fun x7 =>
    new [.int .i64 x1, .int .i64 x7] fun r8 =>
    ldS ((x0.add 1).add 0) fun y9 =>
    need (decide (x6 = y9)) <|
    appRow x6 2 16 (⟨some r8, 1, 1, none⟩ : Sl) fun x10 =>
    st1 ((x0.add 1).add 0) (.slice x10) <|
    ldI .i64 ((x2.add 1).add 0) fun x11 =>
    rr46 x0 x11 (
      ldS ((x0.add 1).add 0) fun x12 =>
      ldS ((x0.add 1).add 0) fun x13 =>
      cutSl x12 2 none (some (w64 ((x13.len : Int) - 1))) none fun x14 =>
      st1 ((x0.add 1).add 0) (.slice x14) <|
      ldS ((x0.add 5).add 0) fun x15 =>
      ldS ((x0.add 5).add 0) fun x16 =>
      ldI .i64 ((x2.add 1).add 0) fun x17 =>
      idxSl x16 x17 1 fun a18 =>
      ldI .i64 (a18.add 0) fun x19 =>
      idxSl x15 x1 1 fun a20 =>
      st1 (a20.add 0) (.int .i64 (w64 (x19 + 1))) <|
      kn)) (
    kn)
noncomputable def bwnode.u11.c : IC := (.cut [] (.cond (.tmp 138) (.seq (.drawn 22 (opsOf Try.f46 22) true [.op 0, .op 1, .op 2, .op 3, .op 4, .op 5, .op 6, .op 7, .op 8, .op 9, .op 10, .op 11, .look 4, .op 12, .op 13, .op 14, .op 15]) (.seq (.ops 23 (opsOf Try.f46 23)) (.seq (.drawn 24 (opsOf Try.f46 24) true [.op 0, .op 1, .op 2, .op 3, .op 4, .op 5, .op 6, .op 7, .op 8, .op 9, .op 10, .op 11, .op 12, .op 13, .op 14]) (.drawn 25 (opsOf Try.f46 25) true [.op 0, .op 1, .op 2, .op 3, .op 4, .op 5, .op 6, .op 7, .op 8, .op 9, .op 10, .op 11, .op 12, .op 13, .op 14, .op 15])))) .skip))
noncomputable abbrev bwnode.u12.f (k : Nat) (rr46 : Ad → Int → (M α) → M α) (x0 : Ad) (x1 : Int) (x2 : Ad) (x3 : Int) (x4 : Bool) (kn : M α) : M α :=
  bwnode.u10.f k x0 x1 x2 x3 x4 (fun y0 y1 y2 y3 => bwnode.u11.f k rr46 y0 y1 y2 y3 kn)
noncomputable def bwnode.u12.c : IC := bwnode.u10.c bwnode.u11.c
noncomputable abbrev bwnode.u13.f (k : Nat) (rr46 : Ad → Int → (M α) → M α) (x0 : Ad) (x1 : Int) (x2 : Ad) (x3 : Int) (x4 : Bool) (kn : M α) : M α :=
  cond x4 (
    bwnode.u9.f k rr46 x0 x1 x2 x3 x4 kn) (
    bwnode.u12.f k rr46 x0 x1 x2 x3 x4 kn)
noncomputable def bwnode.u13.c : IC := .cond (.tmp 104) bwnode.u9.c bwnode.u12.c
noncomputable abbrev bwnode.u14.f (k : Nat) (rr46 : Ad → Int → (M α) → M α) (x0 : Ad) (x1 : Int) (x2 : Ad) (x3 : Int) (x4 : Bool) (kn : M α) : M α :=
  bwnode.u8.f k x0 x1 x2 x3 x4 (fun y0 y1 y2 y3 y4 => bwnode.u13.f k rr46 y0 y1 y2 y3 y4 kn)
noncomputable def bwnode.u14.c : IC := bwnode.u8.c bwnode.u13.c
noncomputable abbrev bwnode.u15.f (k : Nat) (rr46 : Ad → Int → (M α) → M α) (x0 : Ad) (x1 : Int) (x2 : Ad) (x3 : Int) (x4 : Bool) (kn : M α) : M α :=
  cond x4 (
    bwnode.u7.f k rr46 x0 x1 x2 x3 x4 kn) (
    bwnode.u14.f k rr46 x0 x1 x2 x3 x4 kn)
noncomputable def bwnode.u15.c : IC := .cond (.tmp 83) bwnode.u7.c bwnode.u14.c
noncomputable abbrev bwnode.u16.f (k : Nat) (rr46 : Ad → Int → (M α) → M α) (x0 : Ad) (x1 : Int) (x2 : Ad) (x3 : Int) (x4 : Bool) (kn : M α) : M α :=
  bwnode.u6.f k x0 x1 x2 x3 x4 (fun y0 y1 y2 y3 y4 => bwnode.u15.f k rr46 y0 y1 y2 y3 y4 kn)
noncomputable def bwnode.u16.c : IC := bwnode.u6.c bwnode.u15.c
noncomputable abbrev bwnode.u17.f (k : Nat) (rr46 : Ad → Int → (M α) → M α) (x0 : Ad) (x1 : Int) (x2 : Ad) (x3 : Int) (x4 : Bool) (kn : M α) : M α :=
  cond x4 (
    bwnode.u5.f k rr46 x0 x1 x2 x3 x4 kn) (
    bwnode.u16.f k rr46 x0 x1 x2 x3 x4 kn)
noncomputable def bwnode.u17.c : IC := .cond (.tmp 49) bwnode.u5.c bwnode.u16.c
noncomputable abbrev bwnode.u18.f (k : Nat) (rr46 : Ad → Int → (M α) → M α) (x0 : Ad) (x1 : Int) (x2 : Ad) (x3 : Int) (x4 : Bool) (kn : M α) : M α :=
  bwnode.u4.f k x0 x1 x2 x3 x4 (fun y0 y1 y2 y3 y4 => bwnode.u17.f k rr46 y0 y1 y2 y3 y4 kn)
noncomputable def bwnode.u18.c : IC := bwnode.u4.c bwnode.u17.c
noncomputable abbrev bwnode.u19.f (k : Nat) (rr46 : Ad → Int → (M α) → M α) (x0 : Ad) (x1 : Int) (x2 : Ad) (x3 : Int) (x4 : Bool) (kn : M α) : M α :=
  cond x4 (
    bwnode.u3.f k x0 x1 x2 x3 x4 kn) (
    bwnode.u18.f k rr46 x0 x1 x2 x3 x4 kn)
noncomputable def bwnode.u19.c : IC := .cond (.tmp 16) bwnode.u3.c bwnode.u18.c
noncomputable abbrev bwnode.u20.f (k : Nat) (rr46 : Ad → Int → (M α) → M α) (x0 : Ad) (x1 : Int) (x2 : Ad) (x3 : Int) (kn : M α) : M α :=
  bwnode.u2.f k x0 x1 x2 x3 (fun y0 y1 y2 y3 y4 => bwnode.u19.f k rr46 y0 y1 y2 y3 y4 kn)
noncomputable def bwnode.u20.c : IC := bwnode.u2.c bwnode.u19.c
noncomputable abbrev bwnode.u21.f (k : Nat) (rr46 : Ad → Int → (M α) → M α) (x0 : Ad) (x1 : Int) (x2 : Ad) (x3 : Int) (kn : M α) : M α :=
  bwnode.u20.f k rr46 x0 x1 x2 x3 (kn)
noncomputable def bwnode.u21.c : IC := .block 0 bwnode.u20.c
noncomputable abbrev bwnode.u22.f (k : Nat) (rr46 : Ad → Int → (M α) → M α) (x0 : Ad) (x1 : Int) (kn : M α) : M α :=
  bwnode.u1.f k x0 x1 (fun y0 y1 y2 y3 => bwnode.u21.f k rr46 y0 y1 y2 y3 kn)
noncomputable def bwnode.u22.c : IC := bwnode.u1.c bwnode.u21.c
mutual
noncomputable def bwnode.f : Nat → Ad → Int → (M α) → M α
  | 0, _, _, _ => fail
  | k + 1, x0, x1, ret =>
    bwnode.u22.f k (fun z0 z1 z2 => bwnode.f k z0 z1 z2) x0 x1 (ret)
end
noncomputable def bind_walked.u1.f (k : Nat) (x0 : Sl) (kn : Sl → Ad → M α) : M α :=
  mkSl (x0.len : Int) (x0.len : Int) 8 [.int .i64 0] fun r3 =>
  mkSl (x0.len : Int) (x0.len : Int) 1 [.bool false] fun r4 =>
  mkSl (x0.len : Int) (x0.len : Int) 8 [.int .i64 0] fun r5 =>
  new [.slice x0, .slice Sl.nil, .int .i64 0, .slice r3, .slice r4, .slice r5] fun x6 =>
  kn x0 x6
noncomputable def bind_walked.u1.c (R : IC) : IC := (.seq (.ops 0 (opsOf Try.f28 0)) (.seq (.cut [0, 3] (.drawn 1 (opsOf Try.f28 1) true [.op 0, .op 1, .op 2, .op 3, .op 4, .op 5, .op 6, .op 7, .op 8, .op 9, .op 10, .op 11, .op 12])) R))
noncomputable def bind_walked.u2.f (k : Nat) (x0 : Sl) (x1 : Ad) (kn : Sl → Ad → Int → Int → M α) : M α :=
  ldS ((x1.add 3).add 0) fun x4 =>
  kn x0 x1 (x4.len : Int) 0
noncomputable def bind_walked.u2.c (R : IC) : IC := (.seq (.cut [0, 3, 21, 22] (.ops 2 (opsOf Try.f28 2))) R)
noncomputable def bind_walked.u3.f (k : Nat) (x0 : Sl) (x1 : Ad) (x2 : Int) (x3 : Int) (kn : Sl → Ad → Int → Int → M α) (kx0 : Sl → Ad → M α) : M α :=
  cond (decide (x3 < x2)) (
    ldS ((x1.add 3).add 0) fun x6 =>
    idxSl x6 x3 1 fun a7 =>
    st1 (a7.add 0) (.int .i64 (-1)) <|
    kn x0 x1 x2 (w64 (x3 + 1))) (
    kx0 x0 x1)
noncomputable def bind_walked.u3.c : IC := (.seq (.ops 3 (opsOf Try.f28 3)) (.seq (.cond (.tmp 23) .skip (.exit 0 [0, 3])) (.seq (.block 1 (.seq (.ops 4 (opsOf Try.f28 4)) (.ops 5 (opsOf Try.f28 5)))) (.cut [0, 3, 21, 22] (.ops 6 (opsOf Try.f28 6))))))
noncomputable def bind_walked.u4.l (k : Nat) (kx0 : Sl → Ad → M α) : Nat → Sl → Ad → Int → Int → M α
  | 0, _, _, _, _ => fail
  | j + 1, x0, x1, x2, x3 =>
    bind_walked.u3.f k x0 x1 x2 x3 (fun y0 y1 y2 y3 => bind_walked.u4.l k kx0 j y0 y1 y2 y3) kx0
noncomputable abbrev bind_walked.u4.f (k : Nat) (x0 : Sl) (x1 : Ad) (x2 : Int) (x3 : Int) (kx0 : Sl → Ad → M α) : M α :=
  bind_walked.u4.l k kx0 k x0 x1 x2 x3
noncomputable def bind_walked.u4.c : IC := .loop [0, 3, 21, 22] bind_walked.u3.c
noncomputable abbrev bind_walked.u5.f (k : Nat) (x0 : Sl) (x1 : Ad) (x2 : Int) (x3 : Int) (kn : Sl → Ad → M α) : M α :=
  bind_walked.u4.f k x0 x1 x2 x3 (fun y0 y1 => kn y0 y1)
noncomputable def bind_walked.u5.c : IC := .block 0 bind_walked.u4.c
noncomputable abbrev bind_walked.u6.f (k : Nat) (x0 : Sl) (x1 : Ad) (kn : Sl → Ad → M α) : M α :=
  bind_walked.u2.f k x0 x1 (fun y0 y1 y2 y3 => bind_walked.u5.f k y0 y1 y2 y3 kn)
noncomputable def bind_walked.u6.c : IC := bind_walked.u2.c bind_walked.u5.c
noncomputable def bind_walked.u7.f (k : Nat) (x0 : Sl) (x1 : Ad) (kr : Ad → M α) : M α :=
  bwnode.f k x1 (w64 ((x0.len : Int) - 1)) (
    kr x1)
noncomputable def bind_walked.u7.c : IC := (.seq (.ops 7 (opsOf Try.f28 7)) (.seq (.ops 8 (opsOf Try.f28 8)) (.ret [2])))
noncomputable abbrev bind_walked.u8.f (k : Nat) (x0 : Sl) (x1 : Ad) (kr : Ad → M α) : M α :=
  bind_walked.u6.f k x0 x1 (fun y0 y1 => bind_walked.u7.f k y0 y1 kr)
noncomputable def bind_walked.u8.c : IC := (.seq bind_walked.u6.c bind_walked.u7.c)
noncomputable abbrev bind_walked.u9.f (k : Nat) (x0 : Sl) (kr : Ad → M α) : M α :=
  bind_walked.u1.f k x0 (fun y0 y1 => bind_walked.u8.f k y0 y1 kr)
noncomputable def bind_walked.u9.c : IC := bind_walked.u1.c bind_walked.u8.c
noncomputable def bind_walked.f : Nat → Sl → (Ad → M α) → M α
  | 0, _, _ => fail
  | k + 1, x0, ret =>
    bind_walked.u9.f k x0 (fun y0 =>
      ret y0)
noncomputable def bind_fix.u1.f (k : Nat) (x0 : Int) (x1 : Int) (x2 : Int) (x3 : List UInt8) (x4 : Int) (kr : Bool → M α) : M α :=
  new [.int .i64 x0, .int .i64 x1, .int .i64 x2, .str x3, .int .i64 x4] fun n7 =>
  ldI .i64 ((n7.add 0).add 0) fun x8 =>
  cond (decide (x8 = 10)) (
    kr true) (
    ldI .i64 ((n7.add 0).add 0) fun x9 =>
    kr (decide (x9 = 11)))
noncomputable def bind_fix.u1.c : IC := (.seq (.ops 0 (opsOf Try.f29 0)) (.seq (.ops 1 (opsOf Try.f29 1)) (.ret [2])))
noncomputable def bind_fix.f : Nat → Int → Int → Int → List UInt8 → Int → (Bool → M α) → M α
  | 0, _, _, _, _, _, _ => fail
  | k + 1, x0, x1, x2, x3, x4, ret =>
    bind_fix.u1.f k x0 x1 x2 x3 x4 (fun y0 =>
      ret y0)
noncomputable def bind_Check.u1.f (k : Nat) (x0 : Sl) (kn : Sl → Ad → Option Nat → M α) (kr : Int → Int → M α) : M α :=
  syntax_Right.f k x0 fun r3 =>
  cond (!r3) (
    kr 0 1) (
    bind_walked.f k x0 fun r4 =>
    newMap fun m5 =>
    kn x0 r4 (some m5))
noncomputable def bind_Check.u1.c (R : IC) : IC := (.seq (.ops 0 (opsOf Try.f19 0)) (.seq (.seq (.ops 1 (opsOf Try.f19 1)) (.cond (.tmp 10) (.seq (.ops 2 (opsOf Try.f19 2)) (.ret [2, 3])) .skip)) (.seq (.ops 3 (opsOf Try.f19 3)) (.seq (.cut [0, 4, 5] (.ops 4 (opsOf Try.f19 4))) R))))
noncomputable def bind_Check.u2.f (k : Nat) (x0 : Sl) (x1 : Ad) (x2 : Option Nat) (kn : Ad → Option Nat → Sl → Int → Int → M α) : M α :=
  kn x1 x2 x0 (x0.len : Int) 0
noncomputable def bind_Check.u2.c (R : IC) : IC := (.seq (.cut [4, 5, 14, 15, 16] (.ops 5 (opsOf Try.f19 5))) R)
noncomputable def bind_Check.u3.f (k : Nat) (x0 : Ad) (x1 : Option Nat) (x2 : Sl) (x3 : Int) (x4 : Int) (kn : Ad → Option Nat → Sl → Int → Int → M α) (kx0 : M α) : M α :=
  cond (decide (x4 < x3)) (
    kn x0 x1 x2 x3 x4) (
    kx0)
noncomputable def bind_Check.u3.c (R : IC) : IC := (.seq (.ops 6 (opsOf Try.f19 6)) (.seq (.cut [4, 5, 14, 15, 16] (.cond (.tmp 17) .skip (.exit 0 []))) R))
noncomputable def bind_Check.u4.f (k : Nat) (x0 : Ad) (x1 : Option Nat) (x2 : Sl) (x3 : Int) (x4 : Int) (kn : Ad → Option Nat → Int → Ad → Sl → Int → Int → M α) : M α :=
  idxSl x2 x4 5 fun a7 =>
  ldI .i64 (a7.add 0) fun x8 =>
  ldI .i64 (a7.add 1) fun x9 =>
  ldI .i64 (a7.add 2) fun x10 =>
  ldStr (a7.add 3) fun x11 =>
  ldI .i64 (a7.add 4) fun x12 =>
  new [.int .i64 0, .int .i64 0, .int .i64 0, .str [], .int .i64 0] fun n13 =>
  st1 (n13.add 0) (.int .i64 x8) <|
  st1 (n13.add 1) (.int .i64 x9) <|
  st1 (n13.add 2) (.int .i64 x10) <|
  st1 (n13.add 3) (.str x11) <|
  st1 (n13.add 4) (.int .i64 x12) <|
  kn x0 x1 x4 n13 x2 x3 x4
noncomputable def bind_Check.u4.c (R : IC) : IC := (.seq (.cut [4, 5, 6, 7, 14, 15, 16] (.ops 7 (opsOf Try.f19 7))) R)
noncomputable def bind_Check.u5.f (k : Nat) (x0 : Ad) (x1 : Option Nat) (x2 : Int) (x3 : Ad) (x4 : Sl) (x5 : Int) (x6 : Int) (kn : Ad → Option Nat → Int → Ad → Sl → Int → Int → Bool → M α) : M α :=
  ldI .i64 ((x3.add 0).add 0) fun x9 =>
  cond (decide (x9 = 4)) (
    ldS ((x0.add 3).add 0) fun x10 =>
    idxSl x10 x2 1 fun a11 =>
    ldI .i64 (a11.add 0) fun x12 =>
    kn x0 x1 x2 x3 x4 x5 x6 (decide (x12 < 0))) (
    kn x0 x1 x2 x3 x4 x5 x6 false)
noncomputable def bind_Check.u5.c (R : IC) : IC := (.seq (.cut [4, 5, 6, 7, 14, 15, 16, 21] (.ops 8 (opsOf Try.f19 8))) R)
noncomputable def bind_Check.u6.f (k : Nat) (x0 : Ad) (x1 : Option Nat) (x2 : Int) (x3 : Ad) (x4 : Sl) (x5 : Int) (x6 : Int) (x7 : Bool) (kr : Int → Int → M α) : M α :=
  kr x2 11
noncomputable def bind_Check.u6.c : IC := (.seq (.ops 9 (opsOf Try.f19 9)) (.ret [2, 3]))
noncomputable def bind_Check.u7.f (k : Nat) (x0 : Ad) (x1 : Option Nat) (x2 : Int) (x3 : Ad) (x4 : Sl) (x5 : Int) (x6 : Int) (x7 : Bool) (kn : Ad → Option Nat → Int → Ad → Sl → Int → Int → Bool → M α) : M α :=
  ldI .i64 ((x3.add 0).add 0) fun x10 =>
  cond (decide (x10 = 4)) (
    ldS ((x0.add 4).add 0) fun x11 =>
    idxSl x11 x2 1 fun a12 =>
    ldB (a12.add 0) fun x13 =>
    kn x0 x1 x2 x3 x4 x5 x6 x13) (
    kn x0 x1 x2 x3 x4 x5 x6 false)
noncomputable def bind_Check.u7.c (R : IC) : IC := (.seq (.cut [4, 5, 6, 7, 14, 15, 16, 36] (.ops 10 (opsOf Try.f19 10))) R)
noncomputable def bind_Check.u8.f (k : Nat) (x0 : Ad) (x1 : Option Nat) (x2 : Int) (x3 : Ad) (x4 : Sl) (x5 : Int) (x6 : Int) (x7 : Bool) (kr : Int → Int → M α) : M α :=
  kr x2 12
noncomputable def bind_Check.u8.c : IC := (.seq (.ops 11 (opsOf Try.f19 11)) (.ret [2, 3]))
noncomputable def bind_Check.u9.f (k : Nat) (x0 : Ad) (x1 : Option Nat) (x2 : Int) (x3 : Ad) (x4 : Sl) (x5 : Int) (x6 : Int) (x7 : Bool) (kn : Ad → Option Nat → Int → Ad → Sl → Int → Int → Bool → M α) : M α :=
  ldI .i64 (x3.add 0) fun x10 =>
  ldI .i64 (x3.add 1) fun x11 =>
  ldI .i64 (x3.add 2) fun x12 =>
  ldStr (x3.add 3) fun x13 =>
  ldI .i64 (x3.add 4) fun x14 =>
  bind_fix.f k x10 x11 x12 x13 x14 fun r15 =>
  cond (r15) (
    ldStr ((x3.add 3).add 0) fun x16 =>
    lookM x1 (.str x16) (
      kn x0 x1 x2 x3 x4 x5 x6 false) fun w17 =>
    asB w17 fun x18 =>
    kn x0 x1 x2 x3 x4 x5 x6 x18) (
    kn x0 x1 x2 x3 x4 x5 x6 false)
noncomputable def bind_Check.u9.c (R : IC) : IC := (.seq (.cut [4, 5, 6, 7, 14, 15, 16, 50] (.ops 12 (opsOf Try.f19 12))) R)
noncomputable def bind_Check.u10.f (k : Nat) (x0 : Ad) (x1 : Option Nat) (x2 : Int) (x3 : Ad) (x4 : Sl) (x5 : Int) (x6 : Int) (x7 : Bool) (kn : Ad → Option Nat → Ad → Sl → Int → Int → M α) (kr : Int → Int → M α) : M α :=
  cond (x7) (
    kr x2 9) (
    ldI .i64 (x3.add 0) fun x10 =>
    ldI .i64 (x3.add 1) fun x11 =>
    ldI .i64 (x3.add 2) fun x12 =>
    ldStr (x3.add 3) fun x13 =>
    ldI .i64 (x3.add 4) fun x14 =>
    bind_fix.f k x10 x11 x12 x13 x14 fun r15 =>
    cond (r15) (
      ldS ((x0.add 5).add 0) fun x16 =>
      idxSl x16 x2 1 fun a17 =>
      ldI .i64 (a17.add 0) fun x18 =>
      cond (decide (4 < x18)) (
        kr x2 13) (
        kn x0 x1 x3 x4 x5 x6)) (
      kn x0 x1 x3 x4 x5 x6))
noncomputable def bind_Check.u10.c : IC := (.cut [4, 5, 7, 14, 15, 16] (.cond (.tmp 50) (.seq (.ops 13 (opsOf Try.f19 13)) (.ret [2, 3])) (.seq (.ops 14 (opsOf Try.f19 14)) (.cond (.tmp 60) (.seq (.ops 15 (opsOf Try.f19 15)) (.ret [2, 3])) .skip))))
noncomputable abbrev bind_Check.u11.f (k : Nat) (x0 : Ad) (x1 : Option Nat) (x2 : Int) (x3 : Ad) (x4 : Sl) (x5 : Int) (x6 : Int) (x7 : Bool) (kn : Ad → Option Nat → Ad → Sl → Int → Int → M α) (kr : Int → Int → M α) : M α :=
  bind_Check.u9.f k x0 x1 x2 x3 x4 x5 x6 x7 (fun y0 y1 y2 y3 y4 y5 y6 y7 => bind_Check.u10.f k y0 y1 y2 y3 y4 y5 y6 y7 kn kr)
noncomputable def bind_Check.u11.c : IC := bind_Check.u9.c bind_Check.u10.c
noncomputable abbrev bind_Check.u12.f (k : Nat) (x0 : Ad) (x1 : Option Nat) (x2 : Int) (x3 : Ad) (x4 : Sl) (x5 : Int) (x6 : Int) (x7 : Bool) (kn : Ad → Option Nat → Ad → Sl → Int → Int → M α) (kr : Int → Int → M α) : M α :=
  cond x7 (
    bind_Check.u8.f k x0 x1 x2 x3 x4 x5 x6 x7 kr) (
    bind_Check.u11.f k x0 x1 x2 x3 x4 x5 x6 x7 kn kr)
noncomputable def bind_Check.u12.c : IC := .cond (.tmp 36) bind_Check.u8.c bind_Check.u11.c
noncomputable abbrev bind_Check.u13.f (k : Nat) (x0 : Ad) (x1 : Option Nat) (x2 : Int) (x3 : Ad) (x4 : Sl) (x5 : Int) (x6 : Int) (x7 : Bool) (kn : Ad → Option Nat → Ad → Sl → Int → Int → M α) (kr : Int → Int → M α) : M α :=
  bind_Check.u7.f k x0 x1 x2 x3 x4 x5 x6 x7 (fun y0 y1 y2 y3 y4 y5 y6 y7 => bind_Check.u12.f k y0 y1 y2 y3 y4 y5 y6 y7 kn kr)
noncomputable def bind_Check.u13.c : IC := bind_Check.u7.c bind_Check.u12.c
noncomputable abbrev bind_Check.u14.f (k : Nat) (x0 : Ad) (x1 : Option Nat) (x2 : Int) (x3 : Ad) (x4 : Sl) (x5 : Int) (x6 : Int) (x7 : Bool) (kn : Ad → Option Nat → Ad → Sl → Int → Int → M α) (kr : Int → Int → M α) : M α :=
  cond x7 (
    bind_Check.u6.f k x0 x1 x2 x3 x4 x5 x6 x7 kr) (
    bind_Check.u13.f k x0 x1 x2 x3 x4 x5 x6 x7 kn kr)
noncomputable def bind_Check.u14.c : IC := .cond (.tmp 21) bind_Check.u6.c bind_Check.u13.c
noncomputable abbrev bind_Check.u15.f (k : Nat) (x0 : Ad) (x1 : Option Nat) (x2 : Int) (x3 : Ad) (x4 : Sl) (x5 : Int) (x6 : Int) (kn : Ad → Option Nat → Ad → Sl → Int → Int → M α) (kr : Int → Int → M α) : M α :=
  bind_Check.u5.f k x0 x1 x2 x3 x4 x5 x6 (fun y0 y1 y2 y3 y4 y5 y6 y7 => bind_Check.u14.f k y0 y1 y2 y3 y4 y5 y6 y7 kn kr)
noncomputable def bind_Check.u15.c : IC := bind_Check.u5.c bind_Check.u14.c
noncomputable abbrev bind_Check.u16.f (k : Nat) (x0 : Ad) (x1 : Option Nat) (x2 : Int) (x3 : Ad) (x4 : Sl) (x5 : Int) (x6 : Int) (kn : Ad → Option Nat → Ad → Sl → Int → Int → M α) (kr : Int → Int → M α) : M α :=
  bind_Check.u15.f k x0 x1 x2 x3 x4 x5 x6 (fun y0 y1 y2 y3 y4 y5 => kn y0 y1 y2 y3 y4 y5) kr
noncomputable def bind_Check.u16.c : IC := .block 2 bind_Check.u15.c
noncomputable def bind_Check.u17.f (k : Nat) (x0 : Ad) (x1 : Option Nat) (x2 : Ad) (x3 : Sl) (x4 : Int) (x5 : Int) (kn : Ad → Option Nat → Sl → Int → Int → M α) : M α :=
  ldI .i64 (x2.add 0) fun x8 =>
  ldI .i64 (x2.add 1) fun x9 =>
  ldI .i64 (x2.add 2) fun x10 =>
  ldStr (x2.add 3) fun x11 =>
  ldI .i64 (x2.add 4) fun x12 =>
  bind_fix.f k x8 x9 x10 x11 x12 fun r13 =>
  cond (r13) (
    ldStr ((x2.add 3).add 0) fun x14 =>
    setMap x1 (.str x14) (.bool true) <|
    kn x0 x1 x3 x4 x5) (
    kn x0 x1 x3 x4 x5)
noncomputable def bind_Check.u17.c : IC := (.seq (.ops 16 (opsOf Try.f19 16)) (.cut [4, 5, 14, 15, 16] (.cond (.tmp 75) (.ops 17 (opsOf Try.f19 17)) .skip)))
noncomputable abbrev bind_Check.u18.f (k : Nat) (x0 : Ad) (x1 : Option Nat) (x2 : Int) (x3 : Ad) (x4 : Sl) (x5 : Int) (x6 : Int) (kn : Ad → Option Nat → Sl → Int → Int → M α) (kr : Int → Int → M α) : M α :=
  bind_Check.u16.f k x0 x1 x2 x3 x4 x5 x6 (fun y0 y1 y2 y3 y4 y5 => bind_Check.u17.f k y0 y1 y2 y3 y4 y5 kn) kr
noncomputable def bind_Check.u18.c : IC := (.seq bind_Check.u16.c bind_Check.u17.c)
noncomputable abbrev bind_Check.u19.f (k : Nat) (x0 : Ad) (x1 : Option Nat) (x2 : Sl) (x3 : Int) (x4 : Int) (kn : Ad → Option Nat → Sl → Int → Int → M α) (kr : Int → Int → M α) : M α :=
  bind_Check.u4.f k x0 x1 x2 x3 x4 (fun y0 y1 y2 y3 y4 y5 y6 => bind_Check.u18.f k y0 y1 y2 y3 y4 y5 y6 kn kr)
noncomputable def bind_Check.u19.c : IC := bind_Check.u4.c bind_Check.u18.c
noncomputable abbrev bind_Check.u20.f (k : Nat) (x0 : Ad) (x1 : Option Nat) (x2 : Sl) (x3 : Int) (x4 : Int) (kn : Ad → Option Nat → Sl → Int → Int → M α) (kr : Int → Int → M α) : M α :=
  bind_Check.u19.f k x0 x1 x2 x3 x4 (fun y0 y1 y2 y3 y4 => kn y0 y1 y2 y3 y4) kr
noncomputable def bind_Check.u20.c : IC := .block 1 bind_Check.u19.c
noncomputable def bind_Check.u21.f (k : Nat) (x0 : Ad) (x1 : Option Nat) (x2 : Sl) (x3 : Int) (x4 : Int) (kn : Ad → Option Nat → Sl → Int → Int → M α) : M α :=
  kn x0 x1 x2 x3 (w64 (x4 + 1))
noncomputable def bind_Check.u21.c : IC := (.cut [4, 5, 14, 15, 16] (.ops 18 (opsOf Try.f19 18)))
noncomputable abbrev bind_Check.u22.f (k : Nat) (x0 : Ad) (x1 : Option Nat) (x2 : Sl) (x3 : Int) (x4 : Int) (kn : Ad → Option Nat → Sl → Int → Int → M α) (kr : Int → Int → M α) : M α :=
  bind_Check.u20.f k x0 x1 x2 x3 x4 (fun y0 y1 y2 y3 y4 => bind_Check.u21.f k y0 y1 y2 y3 y4 kn) kr
noncomputable def bind_Check.u22.c : IC := (.seq bind_Check.u20.c bind_Check.u21.c)
noncomputable abbrev bind_Check.u23.f (k : Nat) (x0 : Ad) (x1 : Option Nat) (x2 : Sl) (x3 : Int) (x4 : Int) (kn : Ad → Option Nat → Sl → Int → Int → M α) (kr : Int → Int → M α) (kx0 : M α) : M α :=
  bind_Check.u3.f k x0 x1 x2 x3 x4 (fun y0 y1 y2 y3 y4 => bind_Check.u22.f k y0 y1 y2 y3 y4 kn kr) kx0
noncomputable def bind_Check.u23.c : IC := bind_Check.u3.c bind_Check.u22.c
noncomputable def bind_Check.u24.l (k : Nat) (kr : Int → Int → M α) (kx0 : M α) : Nat → Ad → Option Nat → Sl → Int → Int → M α
  | 0, _, _, _, _, _ => fail
  | j + 1, x0, x1, x2, x3, x4 =>
    bind_Check.u23.f k x0 x1 x2 x3 x4 (fun y0 y1 y2 y3 y4 => bind_Check.u24.l k kr kx0 j y0 y1 y2 y3 y4) kr kx0
noncomputable abbrev bind_Check.u24.f (k : Nat) (x0 : Ad) (x1 : Option Nat) (x2 : Sl) (x3 : Int) (x4 : Int) (kr : Int → Int → M α) (kx0 : M α) : M α :=
  bind_Check.u24.l k kr kx0 k x0 x1 x2 x3 x4
noncomputable def bind_Check.u24.c : IC := .loop [4, 5, 14, 15, 16] bind_Check.u23.c
noncomputable abbrev bind_Check.u25.f (k : Nat) (x0 : Ad) (x1 : Option Nat) (x2 : Sl) (x3 : Int) (x4 : Int) (kn : M α) (kr : Int → Int → M α) : M α :=
  bind_Check.u24.f k x0 x1 x2 x3 x4 kr (kn)
noncomputable def bind_Check.u25.c : IC := .block 0 bind_Check.u24.c
noncomputable abbrev bind_Check.u26.f (k : Nat) (x0 : Sl) (x1 : Ad) (x2 : Option Nat) (kn : M α) (kr : Int → Int → M α) : M α :=
  bind_Check.u2.f k x0 x1 x2 (fun y0 y1 y2 y3 y4 => bind_Check.u25.f k y0 y1 y2 y3 y4 kn kr)
noncomputable def bind_Check.u26.c : IC := bind_Check.u2.c bind_Check.u25.c
noncomputable def bind_Check.u27.f (k : Nat) (kr : Int → Int → M α) : M α :=
  kr 0 0
noncomputable def bind_Check.u27.c : IC := (.seq (.ops 19 (opsOf Try.f19 19)) (.ret [2, 3]))
noncomputable abbrev bind_Check.u28.f (k : Nat) (x0 : Sl) (x1 : Ad) (x2 : Option Nat) (kr : Int → Int → M α) : M α :=
  bind_Check.u26.f k x0 x1 x2 (bind_Check.u27.f k kr) kr
noncomputable def bind_Check.u28.c : IC := (.seq bind_Check.u26.c bind_Check.u27.c)
noncomputable abbrev bind_Check.u29.f (k : Nat) (x0 : Sl) (kr : Int → Int → M α) : M α :=
  bind_Check.u1.f k x0 (fun y0 y1 y2 => bind_Check.u28.f k y0 y1 y2 kr) kr
noncomputable def bind_Check.u29.c : IC := bind_Check.u1.c bind_Check.u28.c
noncomputable def bind_Check.f : Nat → Sl → (Int → Int → M α) → M α
  | 0, _, _ => fail
  | k + 1, x0, ret =>
    bind_Check.u29.f k x0 (fun y0 y1 =>
      ret y0 y1)
noncomputable def norm_wide.u1.f (k : Nat) (x0 : Sl) (kn : Sl → M α) : M α :=
  slices_Clone_Node_Node.f k x0 fun r3 =>
  kn r3
noncomputable def norm_wide.u1.c (R : IC) : IC := (.seq (.ops 0 (opsOf Try.f27 0)) (.seq (.cut [3] (.ops 1 (opsOf Try.f27 1))) R))
noncomputable def norm_wide.u2.f (k : Nat) (x0 : Sl) (kn : Sl → Int → Int → M α) : M α :=
  kn x0 (x0.len : Int) 0
noncomputable def norm_wide.u2.c (R : IC) : IC := (.seq (.cut [3, 10, 11] (.ops 2 (opsOf Try.f27 2))) R)
noncomputable def norm_wide.u3.f (k : Nat) (x0 : Sl) (x1 : Int) (x2 : Int) (kn : Sl → Int → Int → M α) (kx0 : Sl → M α) : M α :=
  cond (decide (x2 < x1)) (
    idxSl x0 x2 5 fun a5 =>
    ldI .i64 ((a5.add 0).add 0) fun x6 =>
    cond (decide (x6 = 12)) (
      idxSl x0 x2 5 fun a7 =>
      st1 ((a7.add 0).add 0) (.int .i64 3) <|
      kn x0 x1 (w64 (x2 + 1))) (
      kn x0 x1 (w64 (x2 + 1)))) (
    kx0 x0)
noncomputable def norm_wide.u3.c : IC := (.seq (.ops 3 (opsOf Try.f27 3)) (.seq (.cond (.tmp 12) .skip (.exit 0 [3])) (.seq (.block 1 (.seq (.ops 4 (opsOf Try.f27 4)) (.seq (.ops 5 (opsOf Try.f27 5)) (.cond (.tmp 19) (.ops 6 (opsOf Try.f27 6)) .skip)))) (.cut [3, 10, 11] (.ops 7 (opsOf Try.f27 7))))))
noncomputable def norm_wide.u4.l (k : Nat) (kx0 : Sl → M α) : Nat → Sl → Int → Int → M α
  | 0, _, _, _ => fail
  | j + 1, x0, x1, x2 =>
    norm_wide.u3.f k x0 x1 x2 (fun y0 y1 y2 => norm_wide.u4.l k kx0 j y0 y1 y2) kx0
noncomputable abbrev norm_wide.u4.f (k : Nat) (x0 : Sl) (x1 : Int) (x2 : Int) (kx0 : Sl → M α) : M α :=
  norm_wide.u4.l k kx0 k x0 x1 x2
noncomputable def norm_wide.u4.c : IC := .loop [3, 10, 11] norm_wide.u3.c
noncomputable abbrev norm_wide.u5.f (k : Nat) (x0 : Sl) (x1 : Int) (x2 : Int) (kn : Sl → M α) : M α :=
  norm_wide.u4.f k x0 x1 x2 (fun y0 => kn y0)
noncomputable def norm_wide.u5.c : IC := .block 0 norm_wide.u4.c
noncomputable abbrev norm_wide.u6.f (k : Nat) (x0 : Sl) (kn : Sl → M α) : M α :=
  norm_wide.u2.f k x0 (fun y0 y1 y2 => norm_wide.u5.f k y0 y1 y2 kn)
noncomputable def norm_wide.u6.c : IC := norm_wide.u2.c norm_wide.u5.c
noncomputable def norm_wide.u7.f (k : Nat) (x0 : Sl) (kr : Bool → M α) : M α :=
  bind_Check.f k x0 fun r3 r4 =>
  kr (decide (r4 = 0))
noncomputable def norm_wide.u7.c : IC := (.seq (.ops 8 (opsOf Try.f27 8)) (.seq (.ops 9 (opsOf Try.f27 9)) (.ret [2])))
noncomputable abbrev norm_wide.u8.f (k : Nat) (x0 : Sl) (kr : Bool → M α) : M α :=
  norm_wide.u6.f k x0 (fun y0 => norm_wide.u7.f k y0 kr)
noncomputable def norm_wide.u8.c : IC := (.seq norm_wide.u6.c norm_wide.u7.c)
noncomputable abbrev norm_wide.u9.f (k : Nat) (x0 : Sl) (kr : Bool → M α) : M α :=
  norm_wide.u1.f k x0 (fun y0 => norm_wide.u8.f k y0 kr)
noncomputable def norm_wide.u9.c : IC := norm_wide.u1.c norm_wide.u8.c
noncomputable def norm_wide.f : Nat → Sl → (Bool → M α) → M α
  | 0, _, _ => fail
  | k + 1, x0, ret =>
    norm_wide.u9.f k x0 (fun y0 =>
      ret y0)
noncomputable def norm_dual.u1.f (k : Nat) (x0 : Int) (kr : Int → M α) : M α :=
  cond (decide (x0 = 1)) (
    kr 2) (
    cond (decide (x0 = 2)) (
      kr 1) (
      cond (decide (x0 = 3)) (
        kr 12) (
        cond (decide (x0 = 12)) (
          kr 3) (
          cond (decide (x0 = 6)) (
            kr 7) (
            cond (decide (x0 = 7)) (
              kr 6) (
              cond (decide (x0 = 8)) (
                kr 9) (
                cond (decide (x0 = 9)) (
                  kr 8) (
                  cond (decide (x0 = 10)) (
                    kr 11) (
                    cond (decide (x0 = 11)) (
                      kr 10) (
                      kr x0))))))))))
noncomputable def norm_dual.u1.c : IC := (.seq (.ops 0 (opsOf Try.f55 0)) (.seq (.seq (.ops 1 (opsOf Try.f55 1)) (.block 0 (.seq (.ops 2 (opsOf Try.f55 2)) (.cond (.tmp 4) (.seq (.ops 3 (opsOf Try.f55 3)) (.ret [2])) (.seq (.ops 4 (opsOf Try.f55 4)) (.cond (.tmp 6) (.seq (.ops 5 (opsOf Try.f55 5)) (.ret [2])) (.seq (.ops 6 (opsOf Try.f55 6)) (.cond (.tmp 8) (.seq (.ops 7 (opsOf Try.f55 7)) (.ret [2])) (.seq (.ops 8 (opsOf Try.f55 8)) (.cond (.tmp 10) (.seq (.ops 9 (opsOf Try.f55 9)) (.ret [2])) (.seq (.ops 10 (opsOf Try.f55 10)) (.cond (.tmp 12) (.seq (.ops 11 (opsOf Try.f55 11)) (.ret [2])) (.seq (.ops 12 (opsOf Try.f55 12)) (.cond (.tmp 14) (.seq (.ops 13 (opsOf Try.f55 13)) (.ret [2])) (.seq (.ops 14 (opsOf Try.f55 14)) (.cond (.tmp 16) (.seq (.ops 15 (opsOf Try.f55 15)) (.ret [2])) (.seq (.ops 16 (opsOf Try.f55 16)) (.cond (.tmp 18) (.seq (.ops 17 (opsOf Try.f55 17)) (.ret [2])) (.seq (.ops 18 (opsOf Try.f55 18)) (.cond (.tmp 20) (.seq (.ops 19 (opsOf Try.f55 19)) (.ret [2])) (.seq (.ops 20 (opsOf Try.f55 20)) (.cond (.tmp 22) (.seq (.ops 21 (opsOf Try.f55 21)) (.ret [2])) .skip)))))))))))))))))))))) (.seq (.ops 22 (opsOf Try.f55 22)) (.ret [2]))))
noncomputable def norm_dual.f : Nat → Int → (Int → M α) → M α
  | 0, _, _ => fail
  | k + 1, x0, ret =>
    norm_dual.u1.f k x0 (fun y0 =>
      ret y0)
noncomputable def norm_maker_node.u1.f (k : Nat) (rr40 : Ad → Int → Bool → (Int → M α) → M α) (x0 : Ad) (x1 : Int) (x2 : Bool) (kn : Ad → Bool → Ad → M α) (kr : Int → M α) : M α :=
  ldS ((x0.add 0).add 0) fun x5 =>
  idxSl x5 x1 5 fun a6 =>
  ldI .i64 (a6.add 0) fun x7 =>
  ldI .i64 (a6.add 1) fun x8 =>
  ldI .i64 (a6.add 2) fun x9 =>
  ldStr (a6.add 3) fun x10 =>
  ldI .i64 (a6.add 4) fun x11 =>
  new [.int .i64 0, .int .i64 0, .int .i64 0, .str [], .int .i64 0] fun x12 =>
  st1 (x12.add 0) (.int .i64 x7) <|
  st1 (x12.add 1) (.int .i64 x8) <|
  st1 (x12.add 2) (.int .i64 x9) <|
  st1 (x12.add 3) (.str x10) <|
  st1 (x12.add 4) (.int .i64 x11) <|
  ldI .i64 ((x12.add 0).add 0) fun x13 =>
  cond (decide (x13 = 5)) (
    ldI .i64 ((x12.add 1).add 0) fun x14 =>
    rr40 x0 x14 (!x2) fun r15 =>
    kr r15) (
    ldI .i64 ((x12.add 0).add 0) fun x16 =>
    cond (decide (x16 = 6)) (
      cond (decide (x16 = 6)) (
        ldI .i64 ((x12.add 1).add 0) fun x17 =>
        ldI .i64 ((x12.add 2).add 0) fun x18 =>
        rr40 x0 x17 x2 fun r19 =>
        ldI .i64 ((x12.add 2).add 0) fun y20 =>
        need (decide (x18 = y20)) <|
        rr40 x0 x18 x2 fun r21 =>
        st1 ((x12.add 1).add 0) (.int .i64 r19) <|
        st1 ((x12.add 2).add 0) (.int .i64 r21) <|
        kn x0 x2 x12) (
        cond (decide (x16 = 8)) (
          cond (decide (x16 = 8)) (
            ldI .i64 ((x12.add 1).add 0) fun x22 =>
            rr40 x0 x22 x2 fun r23 =>
            st1 ((x12.add 1).add 0) (.int .i64 r23) <|
            kn x0 x2 x12) (
            kn x0 x2 x12)) (
          cond (decide (x16 = 9)) (
            cond (decide (x16 = 9)) (
              ldI .i64 ((x12.add 1).add 0) fun x24 =>
              rr40 x0 x24 x2 fun r25 =>
              st1 ((x12.add 1).add 0) (.int .i64 r25) <|
              kn x0 x2 x12) (
              kn x0 x2 x12)) (
            cond (decide (x16 = 10)) (
              cond (decide (x16 = 10)) (
                ldI .i64 ((x12.add 1).add 0) fun x26 =>
                rr40 x0 x26 x2 fun r27 =>
                st1 ((x12.add 1).add 0) (.int .i64 r27) <|
                kn x0 x2 x12) (
                kn x0 x2 x12)) (
              cond (decide (x16 = 11)) (
                ldI .i64 ((x12.add 1).add 0) fun x28 =>
                rr40 x0 x28 x2 fun r29 =>
                st1 ((x12.add 1).add 0) (.int .i64 r29) <|
                kn x0 x2 x12) (
                kn x0 x2 x12)))))) (
      cond (decide (x16 = 7)) (
        ldI .i64 ((x12.add 1).add 0) fun x30 =>
        ldI .i64 ((x12.add 2).add 0) fun x31 =>
        rr40 x0 x30 x2 fun r32 =>
        ldI .i64 ((x12.add 2).add 0) fun y33 =>
        need (decide (x31 = y33)) <|
        rr40 x0 x31 x2 fun r34 =>
        st1 ((x12.add 1).add 0) (.int .i64 r32) <|
        st1 ((x12.add 2).add 0) (.int .i64 r34) <|
        kn x0 x2 x12) (
        cond (decide (x16 = 8)) (
          cond (decide (x16 = 8)) (
            ldI .i64 ((x12.add 1).add 0) fun x35 =>
            rr40 x0 x35 x2 fun r36 =>
            st1 ((x12.add 1).add 0) (.int .i64 r36) <|
            kn x0 x2 x12) (
            kn x0 x2 x12)) (
          cond (decide (x16 = 9)) (
            cond (decide (x16 = 9)) (
              ldI .i64 ((x12.add 1).add 0) fun x37 =>
              rr40 x0 x37 x2 fun r38 =>
              st1 ((x12.add 1).add 0) (.int .i64 r38) <|
              kn x0 x2 x12) (
              kn x0 x2 x12)) (
            cond (decide (x16 = 10)) (
              cond (decide (x16 = 10)) (
                ldI .i64 ((x12.add 1).add 0) fun x39 =>
                rr40 x0 x39 x2 fun r40 =>
                st1 ((x12.add 1).add 0) (.int .i64 r40) <|
                kn x0 x2 x12) (
                kn x0 x2 x12)) (
              cond (decide (x16 = 11)) (
                ldI .i64 ((x12.add 1).add 0) fun x41 =>
                rr40 x0 x41 x2 fun r42 =>
                st1 ((x12.add 1).add 0) (.int .i64 r42) <|
                kn x0 x2 x12) (
                kn x0 x2 x12)))))))
noncomputable def norm_maker_node.u1.c (R : IC) : IC := (.seq (.ops 0 (opsOf Try.f40 0)) (.seq (.ops 1 (opsOf Try.f40 1)) (.seq (.seq (.ops 2 (opsOf Try.f40 2)) (.cond (.tmp 17) (.seq (.ops 3 (opsOf Try.f40 3)) (.ret [6])) .skip)) (.seq (.cut [0, 2, 7] (.seq (.ops 4 (opsOf Try.f40 4)) (.block 0 (.seq (.seq (.ops 5 (opsOf Try.f40 5)) (.cond (.tmp 26) .skip (.ops 6 (opsOf Try.f40 6)))) (.cond (.tmp 26) (.drawn 7 (opsOf Try.f40 7) true [.op 0, .op 1, .op 2, .op 3, .op 5, .op 6, .op 7, .op 8, .op 4, .look 7, .op 10, .op 9, .op 11, .op 12, .op 13]) (.seq (.seq (.ops 8 (opsOf Try.f40 8)) (.cond (.tmp 41) .skip (.seq (.ops 9 (opsOf Try.f40 9)) (.cond (.tmp 41) .skip (.seq (.ops 10 (opsOf Try.f40 10)) (.cond (.tmp 41) .skip (.ops 11 (opsOf Try.f40 11)))))))) (.cond (.tmp 41) (.ops 12 (opsOf Try.f40 12)) .skip))))))) R))))
noncomputable def norm_maker_node.u2.f (k : Nat) (x0 : Ad) (x1 : Bool) (x2 : Ad) (kn : Ad → Ad → M α) : M α :=
  cond (x1) (
    ldI .i64 ((x2.add 0).add 0) fun x5 =>
    norm_dual.f k x5 fun r6 =>
    st1 ((x2.add 0).add 0) (.int .i64 r6) <|
    kn x0 x2) (
    kn x0 x2)
noncomputable def norm_maker_node.u2.c (R : IC) : IC := (.seq (.cut [0, 7] (.seq (.ops 13 (opsOf Try.f40 13)) (.cond (.tmp 52) (.ops 14 (opsOf Try.f40 14)) .skip))) R)
noncomputable def norm_maker_node.u3.f (k : Nat) (x0 : Ad) (x1 : Ad) (kr : Int → M α) : M α :=
  ldS ((x0.add 1).add 0) fun x4 =>
  ldI .i64 (x1.add 0) fun x5 =>
  ldI .i64 (x1.add 1) fun x6 =>
  ldI .i64 (x1.add 2) fun x7 =>
  ldStr (x1.add 3) fun x8 =>
  ldI .i64 (x1.add 4) fun x9 =>
  new [.int .i64 x5, .int .i64 x6, .int .i64 x7, .str x8, .int .i64 x9] fun r10 =>
  ldS ((x0.add 1).add 0) fun y11 =>
  need (decide (x4 = y11)) <|
  appRow x4 5 48 (⟨some r10, 1, 1, none⟩ : Sl) fun x12 =>
  st1 ((x0.add 1).add 0) (.slice x12) <|
  ldS ((x0.add 1).add 0) fun x13 =>
  kr (w64 ((x13.len : Int) - 1))
noncomputable def norm_maker_node.u3.c : IC := (.seq (.drawn 15 (opsOf Try.f40 15) true [.op 0, .op 1, .op 2, .op 3, .op 4, .op 5, .op 6, .look 4, .op 7, .op 8, .op 9, .op 10]) (.seq (.ops 16 (opsOf Try.f40 16)) (.ret [6])))
noncomputable abbrev norm_maker_node.u4.f (k : Nat) (x0 : Ad) (x1 : Bool) (x2 : Ad) (kr : Int → M α) : M α :=
  norm_maker_node.u2.f k x0 x1 x2 (fun y0 y1 => norm_maker_node.u3.f k y0 y1 kr)
noncomputable def norm_maker_node.u4.c : IC := norm_maker_node.u2.c norm_maker_node.u3.c
noncomputable abbrev norm_maker_node.u5.f (k : Nat) (rr40 : Ad → Int → Bool → (Int → M α) → M α) (x0 : Ad) (x1 : Int) (x2 : Bool) (kr : Int → M α) : M α :=
  norm_maker_node.u1.f k rr40 x0 x1 x2 (fun y0 y1 y2 => norm_maker_node.u4.f k y0 y1 y2 kr) kr
noncomputable def norm_maker_node.u5.c : IC := norm_maker_node.u1.c norm_maker_node.u4.c
mutual
noncomputable def norm_maker_node.f : Nat → Ad → Int → Bool → (Int → M α) → M α
  | 0, _, _, _, _ => fail
  | k + 1, x0, x1, x2, ret =>
    norm_maker_node.u5.f k (fun z0 z1 z2 z3 => norm_maker_node.f k z0 z1 z2 z3) x0 x1 x2 (fun y0 =>
      ret y0)
end
noncomputable def norm_form.u1.f (k : Nat) (x0 : Sl) (x1 : Bool) (kr : Sl → M α) : M α :=
  norm_wide.f k x0 fun r4 =>
  cond (!r4) (
    kr Sl.nil) (
    new [.slice x0, .slice Sl.nil] fun x5 =>
    norm_maker_node.f k x5 (w64 ((x0.len : Int) - 1)) x1 fun r6 =>
    ldS ((x5.add 1).add 0) fun x7 =>
    kr x7)
noncomputable def norm_form.u1.c : IC := (.seq (.ops 0 (opsOf Try.f22 0)) (.seq (.seq (.ops 1 (opsOf Try.f22 1)) (.cond (.tmp 8) (.seq (.ops 2 (opsOf Try.f22 2)) (.ret [4])) .skip)) (.seq (.ops 3 (opsOf Try.f22 3)) (.seq (.ops 4 (opsOf Try.f22 4)) (.seq (.ops 5 (opsOf Try.f22 5)) (.ret [4]))))))
noncomputable def norm_form.f : Nat → Sl → Bool → (Sl → M α) → M α
  | 0, _, _, _ => fail
  | k + 1, x0, x1, ret =>
    norm_form.u1.f k x0 x1 (fun y0 =>
      ret y0)
noncomputable def norm_Positive.u1.f (k : Nat) (x0 : Sl) (kr : Sl → M α) : M α :=
  norm_form.f k x0 false fun r3 =>
  kr r3
noncomputable def norm_Positive.u1.c : IC := (.seq (.ops 0 (opsOf Try.f9 0)) (.seq (.ops 1 (opsOf Try.f9 1)) (.ret [2])))
noncomputable def norm_Positive.f : Nat → Sl → (Sl → M α) → M α
  | 0, _, _ => fail
  | k + 1, x0, ret =>
    norm_Positive.u1.f k x0 (fun y0 =>
      ret y0)
noncomputable def r4Same.u1.f (k : Nat) (x0 : Sl) (x1 : Sl) (x2 : Bool) (kn : Sl → Sl → Bool → M α) (kr : Bool → M α) : M α :=
  cond (!(decide ((x0.len : Int) = (x1.len : Int)))) (
    kr false) (
    kn x0 x1 x2)
noncomputable def r4Same.u1.c (R : IC) : IC := (.seq (.ops 0 (opsOf Try.f12 0)) (.seq (.cut [0, 1, 2] (.seq (.ops 1 (opsOf Try.f12 1)) (.cond (.tmp 14) (.seq (.ops 2 (opsOf Try.f12 2)) (.ret [6])) .skip))) R))
noncomputable def r4Same.u2.f (k : Nat) (x0 : Sl) (x1 : Sl) (x2 : Bool) (kn : Sl → Sl → Bool → Int → M α) : M α :=
  kn x0 x1 x2 0
noncomputable def r4Same.u2.c (R : IC) : IC := (.seq (.cut [0, 1, 2, 7] (.ops 3 (opsOf Try.f12 3))) R)
noncomputable def r4Same.u3.f (k : Nat) (x0 : Sl) (x1 : Sl) (x2 : Bool) (x3 : Int) (kn : Sl → Sl → Bool → Int → M α) (kr : Bool → M α) (kx0 : M α) : M α :=
  cond (decide (x3 < (x0.len : Int))) (
    idxSl x0 x3 5 fun a6 =>
    ldI .i64 (a6.add 0) fun x7 =>
    ldI .i64 (a6.add 1) fun x8 =>
    ldI .i64 (a6.add 2) fun x9 =>
    ldStr (a6.add 3) fun x10 =>
    ldI .i64 (a6.add 4) fun x11 =>
    new [.int .i64 0, .int .i64 0, .int .i64 0, .str [], .int .i64 0] fun a12 =>
    st1 (a12.add 0) (.int .i64 x7) <|
    st1 (a12.add 1) (.int .i64 x8) <|
    st1 (a12.add 2) (.int .i64 x9) <|
    st1 (a12.add 3) (.str x10) <|
    st1 (a12.add 4) (.int .i64 x11) <|
    idxSl x1 x3 5 fun a13 =>
    ldI .i64 (a13.add 0) fun x14 =>
    ldI .i64 (a13.add 1) fun x15 =>
    ldI .i64 (a13.add 2) fun x16 =>
    ldStr (a13.add 3) fun x17 =>
    ldI .i64 (a13.add 4) fun x18 =>
    new [.int .i64 0, .int .i64 0, .int .i64 0, .str [], .int .i64 0] fun b19 =>
    st1 (b19.add 0) (.int .i64 x14) <|
    st1 (b19.add 1) (.int .i64 x15) <|
    st1 (b19.add 2) (.int .i64 x16) <|
    st1 (b19.add 3) (.str x17) <|
    st1 (b19.add 4) (.int .i64 x18) <|
    cond (!x2) (
      st1 ((a12.add 4).add 0) (.int .i64 0) <|
      st1 ((b19.add 4).add 0) (.int .i64 0) <|
      ldI .i64 (a12.add 0) fun x20 =>
      ldI .i64 (a12.add 1) fun x21 =>
      ldI .i64 (a12.add 2) fun x22 =>
      ldStr (a12.add 3) fun x23 =>
      ldI .i64 (a12.add 4) fun x24 =>
      ldI .i64 (b19.add 0) fun x25 =>
      ldI .i64 (b19.add 1) fun x26 =>
      ldI .i64 (b19.add 2) fun x27 =>
      ldStr (b19.add 3) fun x28 =>
      ldI .i64 (b19.add 4) fun x29 =>
      cond (!((decide (x20 = x25) && (decide (x21 = x26) && (decide (x22 = x27) && (decide (x23 = x28) && (decide (x24 = x29) && true))))))) (
        kr false) (
        kn x0 x1 x2 (w64 (x3 + 1)))) (
      ldI .i64 (a12.add 0) fun x30 =>
      ldI .i64 (a12.add 1) fun x31 =>
      ldI .i64 (a12.add 2) fun x32 =>
      ldStr (a12.add 3) fun x33 =>
      ldI .i64 (a12.add 4) fun x34 =>
      ldI .i64 (b19.add 0) fun x35 =>
      ldI .i64 (b19.add 1) fun x36 =>
      ldI .i64 (b19.add 2) fun x37 =>
      ldStr (b19.add 3) fun x38 =>
      ldI .i64 (b19.add 4) fun x39 =>
      cond (!((decide (x30 = x35) && (decide (x31 = x36) && (decide (x32 = x37) && (decide (x33 = x38) && (decide (x34 = x39) && true))))))) (
        kr false) (
        kn x0 x1 x2 (w64 (x3 + 1))))) (
    kx0)
noncomputable def r4Same.u3.c : IC := (.seq (.seq (.ops 4 (opsOf Try.f12 4)) (.cond (.tmp 18) .skip (.exit 0 []))) (.seq (.block 1 (.seq (.ops 6 (opsOf Try.f12 6)) (.seq (.ops 7 (opsOf Try.f12 7)) (.seq (.seq (.ops 8 (opsOf Try.f12 8)) (.cond (.tmp 30) (.seq (.ops 9 (opsOf Try.f12 9)) (.ops 10 (opsOf Try.f12 10))) .skip)) (.seq (.ops 11 (opsOf Try.f12 11)) (.cond (.tmp 35) (.seq (.ops 12 (opsOf Try.f12 12)) (.ret [6])) .skip)))))) (.cut [0, 1, 2, 7] (.ops 5 (opsOf Try.f12 5)))))
noncomputable def r4Same.u4.l (k : Nat) (kr : Bool → M α) (kx0 : M α) : Nat → Sl → Sl → Bool → Int → M α
  | 0, _, _, _, _ => fail
  | j + 1, x0, x1, x2, x3 =>
    r4Same.u3.f k x0 x1 x2 x3 (fun y0 y1 y2 y3 => r4Same.u4.l k kr kx0 j y0 y1 y2 y3) kr kx0
noncomputable abbrev r4Same.u4.f (k : Nat) (x0 : Sl) (x1 : Sl) (x2 : Bool) (x3 : Int) (kr : Bool → M α) (kx0 : M α) : M α :=
  r4Same.u4.l k kr kx0 k x0 x1 x2 x3
noncomputable def r4Same.u4.c : IC := .loop [0, 1, 2, 7] r4Same.u3.c
noncomputable abbrev r4Same.u5.f (k : Nat) (x0 : Sl) (x1 : Sl) (x2 : Bool) (x3 : Int) (kn : M α) (kr : Bool → M α) : M α :=
  r4Same.u4.f k x0 x1 x2 x3 kr (kn)
noncomputable def r4Same.u5.c : IC := .block 0 r4Same.u4.c
noncomputable abbrev r4Same.u6.f (k : Nat) (x0 : Sl) (x1 : Sl) (x2 : Bool) (kn : M α) (kr : Bool → M α) : M α :=
  r4Same.u2.f k x0 x1 x2 (fun y0 y1 y2 y3 => r4Same.u5.f k y0 y1 y2 y3 kn kr)
noncomputable def r4Same.u6.c : IC := r4Same.u2.c r4Same.u5.c
noncomputable def r4Same.u7.f (k : Nat) (kr : Bool → M α) : M α :=
  kr true
noncomputable def r4Same.u7.c : IC := (.seq (.ops 13 (opsOf Try.f12 13)) (.ret [6]))
noncomputable abbrev r4Same.u8.f (k : Nat) (x0 : Sl) (x1 : Sl) (x2 : Bool) (kr : Bool → M α) : M α :=
  r4Same.u6.f k x0 x1 x2 (r4Same.u7.f k kr) kr
noncomputable def r4Same.u8.c : IC := (.seq r4Same.u6.c r4Same.u7.c)
noncomputable abbrev r4Same.u9.f (k : Nat) (x0 : Sl) (x1 : Sl) (x2 : Bool) (kr : Bool → M α) : M α :=
  r4Same.u1.f k x0 x1 x2 (fun y0 y1 y2 => r4Same.u8.f k y0 y1 y2 kr) kr
noncomputable def r4Same.u9.c : IC := r4Same.u1.c r4Same.u8.c
noncomputable def r4Same.f : Nat → Sl → Sl → Bool → (Bool → M α) → M α
  | 0, _, _, _, _ => fail
  | k + 1, x0, x1, x2, ret =>
    r4Same.u9.f k x0 x1 x2 (fun y0 =>
      ret y0)
noncomputable def norm_Is_c1.u1.f (k : Nat) (x0 : Int) (x1 : Int) (x2 : Int) (x3 : List UInt8) (x4 : Int) (kr : Bool → M α) : M α :=
  new [.int .i64 x0, .int .i64 x1, .int .i64 x2, .str x3, .int .i64 x4] fun n7 =>
  ldI .i64 ((n7.add 0).add 0) fun x8 =>
  kr (decide (x8 = 5))
noncomputable def norm_Is_c1.u1.c : IC := (.seq (.ops 0 (opsOf Try.f26 0)) (.seq (.ops 1 (opsOf Try.f26 1)) (.ret [2])))
noncomputable def norm_Is_c1.f : Nat → Int → Int → Int → List UInt8 → Int → (Bool → M α) → M α
  | 0, _, _, _, _, _, _ => fail
  | k + 1, x0, x1, x2, x3, x4, ret =>
    norm_Is_c1.u1.f k x0 x1 x2 x3 x4 (fun y0 =>
      ret y0)
noncomputable def slices_IndexFunc_Node_Node_26.u1.f (k : Nat) (x0 : Sl) (kn : Sl → M α) : M α :=
  kn x0
noncomputable def slices_IndexFunc_Node_Node_26.u1.c (R : IC) : IC := (.seq (.cut [0, 1] (.ops 0 (opsOf Try.f44 0))) R)
noncomputable def slices_IndexFunc_Node_Node_26.u2.f (k : Nat) (x0 : Sl) (kn : Sl → Int → Int → M α) : M α :=
  kn x0 (x0.len : Int) 0
noncomputable def slices_IndexFunc_Node_Node_26.u2.c (R : IC) : IC := (.seq (.cut [0, 1, 7, 8] (.ops 1 (opsOf Try.f44 1))) R)
noncomputable def slices_IndexFunc_Node_Node_26.u3.f (k : Nat) (x0 : Sl) (x1 : Int) (x2 : Int) (kn : Sl → Int → Int → M α) (kr : Int → M α) (kx0 : M α) : M α :=
  cond (decide (x2 < x1)) (
    idxSl x0 x2 5 fun a5 =>
    ldI .i64 (a5.add 0) fun x6 =>
    ldI .i64 (a5.add 1) fun x7 =>
    ldI .i64 (a5.add 2) fun x8 =>
    ldStr (a5.add 3) fun x9 =>
    ldI .i64 (a5.add 4) fun x10 =>
    norm_Is_c1.f k x6 x7 x8 x9 x10 fun r11 =>
    cond (r11) (
      kr x2) (
      kn x0 x1 (w64 (x2 + 1)))) (
    kx0)
noncomputable def slices_IndexFunc_Node_Node_26.u3.c : IC := (.seq (.ops 2 (opsOf Try.f44 2)) (.seq (.cond (.tmp 9) .skip (.exit 0 [])) (.seq (.block 1 (.seq (.ops 3 (opsOf Try.f44 3)) (.seq (.ops 4 (opsOf Try.f44 4)) (.cond (.tmp 16) (.seq (.ops 5 (opsOf Try.f44 5)) (.ret [4])) .skip)))) (.cut [0, 1, 7, 8] (.ops 6 (opsOf Try.f44 6))))))
noncomputable def slices_IndexFunc_Node_Node_26.u4.l (k : Nat) (kr : Int → M α) (kx0 : M α) : Nat → Sl → Int → Int → M α
  | 0, _, _, _ => fail
  | j + 1, x0, x1, x2 =>
    slices_IndexFunc_Node_Node_26.u3.f k x0 x1 x2 (fun y0 y1 y2 => slices_IndexFunc_Node_Node_26.u4.l k kr kx0 j y0 y1 y2) kr kx0
noncomputable abbrev slices_IndexFunc_Node_Node_26.u4.f (k : Nat) (x0 : Sl) (x1 : Int) (x2 : Int) (kr : Int → M α) (kx0 : M α) : M α :=
  slices_IndexFunc_Node_Node_26.u4.l k kr kx0 k x0 x1 x2
noncomputable def slices_IndexFunc_Node_Node_26.u4.c : IC := .loop [0, 1, 7, 8] slices_IndexFunc_Node_Node_26.u3.c
noncomputable abbrev slices_IndexFunc_Node_Node_26.u5.f (k : Nat) (x0 : Sl) (x1 : Int) (x2 : Int) (kn : M α) (kr : Int → M α) : M α :=
  slices_IndexFunc_Node_Node_26.u4.f k x0 x1 x2 kr (kn)
noncomputable def slices_IndexFunc_Node_Node_26.u5.c : IC := .block 0 slices_IndexFunc_Node_Node_26.u4.c
noncomputable abbrev slices_IndexFunc_Node_Node_26.u6.f (k : Nat) (x0 : Sl) (kn : M α) (kr : Int → M α) : M α :=
  slices_IndexFunc_Node_Node_26.u2.f k x0 (fun y0 y1 y2 => slices_IndexFunc_Node_Node_26.u5.f k y0 y1 y2 kn kr)
noncomputable def slices_IndexFunc_Node_Node_26.u6.c : IC := slices_IndexFunc_Node_Node_26.u2.c slices_IndexFunc_Node_Node_26.u5.c
noncomputable def slices_IndexFunc_Node_Node_26.u7.f (k : Nat) (kr : Int → M α) : M α :=
  kr (-1)
noncomputable def slices_IndexFunc_Node_Node_26.u7.c : IC := (.seq (.ops 7 (opsOf Try.f44 7)) (.ret [4]))
noncomputable abbrev slices_IndexFunc_Node_Node_26.u8.f (k : Nat) (x0 : Sl) (kr : Int → M α) : M α :=
  slices_IndexFunc_Node_Node_26.u6.f k x0 (slices_IndexFunc_Node_Node_26.u7.f k kr) kr
noncomputable def slices_IndexFunc_Node_Node_26.u8.c : IC := (.seq slices_IndexFunc_Node_Node_26.u6.c slices_IndexFunc_Node_Node_26.u7.c)
noncomputable abbrev slices_IndexFunc_Node_Node_26.u9.f (k : Nat) (x0 : Sl) (kr : Int → M α) : M α :=
  slices_IndexFunc_Node_Node_26.u1.f k x0 (fun y0 => slices_IndexFunc_Node_Node_26.u8.f k y0 kr)
noncomputable def slices_IndexFunc_Node_Node_26.u9.c : IC := slices_IndexFunc_Node_Node_26.u1.c slices_IndexFunc_Node_Node_26.u8.c
noncomputable def slices_IndexFunc_Node_Node_26.f : Nat → Sl → (Int → M α) → M α
  | 0, _, _ => fail
  | k + 1, x0, ret =>
    slices_IndexFunc_Node_Node_26.u9.f k x0 (fun y0 =>
      ret y0)
noncomputable def slices_ContainsFunc_Node_Node_26.u1.f (k : Nat) (x0 : Sl) (kr : Bool → M α) : M α :=
  slices_IndexFunc_Node_Node_26.f k x0 fun r3 =>
  kr (decide (0 ≤ r3))
noncomputable def slices_ContainsFunc_Node_Node_26.u1.c : IC := (.seq (.ops 0 (opsOf Try.f25 0)) (.seq (.ops 1 (opsOf Try.f25 1)) (.ret [4])))
noncomputable def slices_ContainsFunc_Node_Node_26.f : Nat → Sl → (Bool → M α) → M α
  | 0, _, _ => fail
  | k + 1, x0, ret =>
    slices_ContainsFunc_Node_Node_26.u1.f k x0 (fun y0 =>
      ret y0)
noncomputable def norm_Is.u1.f (k : Nat) (x0 : Sl) (kr : Bool → M α) : M α :=
  slices_ContainsFunc_Node_Node_26.f k x0 fun r3 =>
  cond (!r3) (
    norm_wide.f k x0 fun r4 =>
    kr r4) (
    kr false)
noncomputable def norm_Is.u1.c : IC := (.seq (.ops 0 (opsOf Try.f15 0)) (.seq (.ops 1 (opsOf Try.f15 1)) (.ret [2])))
noncomputable def norm_Is.f : Nat → Sl → (Bool → M α) → M α
  | 0, _, _ => fail
  | k + 1, x0, ret =>
    norm_Is.u1.f k x0 (fun y0 =>
      ret y0)
noncomputable def w6shown.u1.f (k : Nat) (kr : Bool → M α) : M α :=
  syntax_Parse.f k [126, 40, 112, 32, 38, 32, 60, 97, 62, 113, 41] fun r2 r3 =>
  norm_Positive.f k r2 fun r4 =>
  new [.int .i64 12, .int .i64 0, .int .i64 0, .str [112], .int .i64 2, .int .i64 12, .int .i64 0, .int .i64 0, .str [113], .int .i64 9, .int .i64 9, .int .i64 1, .int .i64 0, .str [97], .int .i64 6, .int .i64 7, .int .i64 0, .int .i64 2, .str [], .int .i64 4] fun r5 =>
  r4Same.f k r4 (⟨some r5, 4, 4, none⟩ : Sl) true fun r6 =>
  asNil r3 fun b7 =>
  cond (b7) (
    cond (r6) (
      norm_Is.f k r4 fun r8 =>
      kr r8) (
      kr false)) (
    kr false)
noncomputable def w6shown.u1.c : IC := (.seq (.ops 0 (opsOf Try.f8 0)) (.seq (.ops 1 (opsOf Try.f8 1)) (.seq (.ops 2 (opsOf Try.f8 2)) (.seq (.ops 3 (opsOf Try.f8 3)) (.seq (.ops 4 (opsOf Try.f8 4)) (.seq (.ops 5 (opsOf Try.f8 5)) (.ret [0])))))))
noncomputable def w6shown.f : Nat → (Bool → M α) → M α
  | 0, _ => fail
  | k + 1, ret =>
    w6shown.u1.f k (fun y0 =>
      ret y0)
noncomputable def w6NormNames.u1.f (k : Nat) (x0 : Sl) (kn : Sl → Bool → Sl → M α) : M α :=
  w6shown.f k fun r3 =>
  new [] fun r4 =>
  appRow (⟨some r4, 0, 0, none⟩ : Sl) 5 48 x0 fun x5 =>
  kn x0 r3 x5
noncomputable def w6NormNames.u1.c (R : IC) : IC := (.seq (.ops 0 (opsOf Try.f3 0)) (.seq (.ops 1 (opsOf Try.f3 1)) (.seq (.cut [0, 3, 4] (.ops 2 (opsOf Try.f3 2))) R)))
noncomputable def w6NormNames.u2.f (k : Nat) (x0 : Sl) (x1 : Bool) (x2 : Sl) (kn : Sl → Bool → Sl → Int → M α) : M α :=
  kn x0 x1 x2 0
noncomputable def w6NormNames.u2.c (R : IC) : IC := (.seq (.cut [0, 3, 4, 5] (.ops 3 (opsOf Try.f3 3))) R)
noncomputable def w6NormNames.u3.f (k : Nat) (x0 : Sl) (x1 : Bool) (x2 : Sl) (x3 : Int) (kn : Sl → Bool → Sl → Int → M α) (kx0 : Sl → Bool → Sl → M α) : M α :=
  cond (decide (x3 < (x2.len : Int))) (
    idxSl x2 x3 5 fun a6 =>
    ldI .i64 ((a6.add 0).add 0) fun x7 =>
    cond (decide (x7 = 3)) (
      cond (decide (x7 = 3)) (
        idxSl x2 x3 5 fun a8 =>
        st1 ((a8.add 3).add 0) (.str [111, 110, 101]) <|
        kn x0 x1 x2 (w64 (x3 + 1))) (
        cond (decide (x7 = 8)) (
          cond (decide (x7 = 8)) (
            idxSl x2 x3 5 fun a9 =>
            st1 ((a9.add 3).add 0) (.str [115, 116, 101, 112]) <|
            kn x0 x1 x2 (w64 (x3 + 1))) (
            kn x0 x1 x2 (w64 (x3 + 1)))) (
          cond (decide (x7 = 9)) (
            idxSl x2 x3 5 fun a10 =>
            st1 ((a10.add 3).add 0) (.str [115, 116, 101, 112]) <|
            kn x0 x1 x2 (w64 (x3 + 1))) (
            kn x0 x1 x2 (w64 (x3 + 1)))))) (
      cond (decide (x7 = 12)) (
        idxSl x2 x3 5 fun a11 =>
        st1 ((a11.add 3).add 0) (.str [111, 110, 101]) <|
        kn x0 x1 x2 (w64 (x3 + 1))) (
        cond (decide (x7 = 8)) (
          cond (decide (x7 = 8)) (
            idxSl x2 x3 5 fun a12 =>
            st1 ((a12.add 3).add 0) (.str [115, 116, 101, 112]) <|
            kn x0 x1 x2 (w64 (x3 + 1))) (
            kn x0 x1 x2 (w64 (x3 + 1)))) (
          cond (decide (x7 = 9)) (
            idxSl x2 x3 5 fun a13 =>
            st1 ((a13.add 3).add 0) (.str [115, 116, 101, 112]) <|
            kn x0 x1 x2 (w64 (x3 + 1))) (
            kn x0 x1 x2 (w64 (x3 + 1))))))) (
    kx0 x0 x1 x2)
noncomputable def w6NormNames.u3.c : IC := (.seq (.seq (.ops 4 (opsOf Try.f3 4)) (.cond (.tmp 17) .skip (.exit 0 [0, 3, 4]))) (.seq (.block 1 (.seq (.ops 6 (opsOf Try.f3 6)) (.block 2 (.seq (.seq (.ops 7 (opsOf Try.f3 7)) (.cond (.tmp 25) .skip (.ops 8 (opsOf Try.f3 8)))) (.cond (.tmp 25) (.ops 9 (opsOf Try.f3 9)) (.seq (.seq (.ops 10 (opsOf Try.f3 10)) (.cond (.tmp 32) .skip (.ops 11 (opsOf Try.f3 11)))) (.cond (.tmp 32) (.ops 12 (opsOf Try.f3 12)) .skip))))))) (.cut [0, 3, 4, 5] (.ops 5 (opsOf Try.f3 5)))))
noncomputable def w6NormNames.u4.l (k : Nat) (kx0 : Sl → Bool → Sl → M α) : Nat → Sl → Bool → Sl → Int → M α
  | 0, _, _, _, _ => fail
  | j + 1, x0, x1, x2, x3 =>
    w6NormNames.u3.f k x0 x1 x2 x3 (fun y0 y1 y2 y3 => w6NormNames.u4.l k kx0 j y0 y1 y2 y3) kx0
noncomputable abbrev w6NormNames.u4.f (k : Nat) (x0 : Sl) (x1 : Bool) (x2 : Sl) (x3 : Int) (kx0 : Sl → Bool → Sl → M α) : M α :=
  w6NormNames.u4.l k kx0 k x0 x1 x2 x3
noncomputable def w6NormNames.u4.c : IC := .loop [0, 3, 4, 5] w6NormNames.u3.c
noncomputable abbrev w6NormNames.u5.f (k : Nat) (x0 : Sl) (x1 : Bool) (x2 : Sl) (x3 : Int) (kn : Sl → Bool → Sl → M α) : M α :=
  w6NormNames.u4.f k x0 x1 x2 x3 (fun y0 y1 y2 => kn y0 y1 y2)
noncomputable def w6NormNames.u5.c : IC := .block 0 w6NormNames.u4.c
noncomputable abbrev w6NormNames.u6.f (k : Nat) (x0 : Sl) (x1 : Bool) (x2 : Sl) (kn : Sl → Bool → Sl → M α) : M α :=
  w6NormNames.u2.f k x0 x1 x2 (fun y0 y1 y2 y3 => w6NormNames.u5.f k y0 y1 y2 y3 kn)
noncomputable def w6NormNames.u6.c : IC := w6NormNames.u2.c w6NormNames.u5.c
noncomputable def w6NormNames.u7.f (k : Nat) (x0 : Sl) (x1 : Bool) (x2 : Sl) (kn : Sl → Sl → M α) (kr : Bool → M α) : M α :=
  norm_Positive.f k x0 fun r5 =>
  norm_Positive.f k x2 fun r6 =>
  cond (!x1) (
    kr false) (
    cond (decide (0 < (x0.len : Int))) (
      cond (decide ((r6.len : Int) < (r5.len : Int))) (
        kr false) (
        kn r5 r6)) (
      kn r5 r6))
noncomputable def w6NormNames.u7.c (R : IC) : IC := (.seq (.ops 13 (opsOf Try.f3 13)) (.seq (.ops 14 (opsOf Try.f3 14)) (.seq (.cut [6, 7] (.seq (.ops 15 (opsOf Try.f3 15)) (.cond (.tmp 56) (.seq (.ops 16 (opsOf Try.f3 16)) (.ret [2])) .skip))) R)))
noncomputable def w6NormNames.u8.f (k : Nat) (x0 : Sl) (x1 : Sl) (kn : Sl → Sl → M α) (kr : Bool → M α) : M α :=
  cond (decide ((x0.len : Int) = 0)) (
    kr true) (
    kn x0 x1)
noncomputable def w6NormNames.u8.c (R : IC) : IC := (.seq (.cut [6, 7] (.seq (.ops 17 (opsOf Try.f3 17)) (.cond (.tmp 59) (.seq (.ops 18 (opsOf Try.f3 18)) (.ret [2])) .skip))) R)
noncomputable def w6NormNames.u9.f (k : Nat) (x0 : Sl) (x1 : Sl) (kn : Sl → Sl → Int → M α) : M α :=
  kn x0 x1 0
noncomputable def w6NormNames.u9.c (R : IC) : IC := (.seq (.cut [6, 7, 8] (.ops 19 (opsOf Try.f3 19))) R)
noncomputable def w6NormNames.u10.f (k : Nat) (x0 : Sl) (x1 : Sl) (x2 : Int) (kn : Sl → Sl → Int → M α) (kx3 : Sl → Sl → M α) : M α :=
  cond (decide (x2 < (x0.len : Int))) (
    kn x0 x1 x2) (
    kx3 x0 x1)
noncomputable def w6NormNames.u10.c (R : IC) : IC := (.seq (.cut [6, 7, 8] (.seq (.ops 20 (opsOf Try.f3 20)) (.cond (.tmp 63) .skip (.exit 3 [6, 7])))) R)
noncomputable def w6NormNames.u11.f (k : Nat) (x0 : Sl) (x1 : Sl) (x2 : Int) (kn : Sl → Sl → Int → M α) (kr : Bool → M α) : M α :=
  idxSl x0 x2 5 fun a5 =>
  ldI .i64 (a5.add 0) fun x6 =>
  ldI .i64 (a5.add 1) fun x7 =>
  ldI .i64 (a5.add 2) fun x8 =>
  ldStr (a5.add 3) fun x9 =>
  ldI .i64 (a5.add 4) fun x10 =>
  new [.int .i64 0, .int .i64 0, .int .i64 0, .str [], .int .i64 0] fun x11 =>
  st1 (x11.add 0) (.int .i64 x6) <|
  st1 (x11.add 1) (.int .i64 x7) <|
  st1 (x11.add 2) (.int .i64 x8) <|
  st1 (x11.add 3) (.str x9) <|
  st1 (x11.add 4) (.int .i64 x10) <|
  ldI .i64 ((x11.add 0).add 0) fun x12 =>
  cond (decide (x12 = 3)) (
    cond (decide (x12 = 3)) (
      st1 ((x11.add 3).add 0) (.str [111, 110, 101]) <|
      ldI .i64 (x11.add 0) fun x13 =>
      ldI .i64 (x11.add 1) fun x14 =>
      ldI .i64 (x11.add 2) fun x15 =>
      ldStr (x11.add 3) fun x16 =>
      ldI .i64 (x11.add 4) fun x17 =>
      idxSl x1 x2 5 fun a18 =>
      ldI .i64 (a18.add 0) fun x19 =>
      ldI .i64 (a18.add 1) fun x20 =>
      ldI .i64 (a18.add 2) fun x21 =>
      ldStr (a18.add 3) fun x22 =>
      ldI .i64 (a18.add 4) fun x23 =>
      cond (!((decide (x13 = x19) && (decide (x14 = x20) && (decide (x15 = x21) && (decide (x16 = x22) && (decide (x17 = x23) && true))))))) (
        kr false) (
        kn x0 x1 x2)) (
      cond (decide (x12 = 8)) (
        cond (decide (x12 = 8)) (
          st1 ((x11.add 3).add 0) (.str [115, 116, 101, 112]) <|
          ldI .i64 (x11.add 0) fun x24 =>
          ldI .i64 (x11.add 1) fun x25 =>
          ldI .i64 (x11.add 2) fun x26 =>
          ldStr (x11.add 3) fun x27 =>
          ldI .i64 (x11.add 4) fun x28 =>
          idxSl x1 x2 5 fun a29 =>
          ldI .i64 (a29.add 0) fun x30 =>
          ldI .i64 (a29.add 1) fun x31 =>
          ldI .i64 (a29.add 2) fun x32 =>
          ldStr (a29.add 3) fun x33 =>
          ldI .i64 (a29.add 4) fun x34 =>
          cond (!((decide (x24 = x30) && (decide (x25 = x31) && (decide (x26 = x32) && (decide (x27 = x33) && (decide (x28 = x34) && true))))))) (
            kr false) (
            kn x0 x1 x2)) (
          ldI .i64 (x11.add 0) fun x35 =>
          ldI .i64 (x11.add 1) fun x36 =>
          ldI .i64 (x11.add 2) fun x37 =>
          ldStr (x11.add 3) fun x38 =>
          ldI .i64 (x11.add 4) fun x39 =>
          idxSl x1 x2 5 fun a40 =>
          ldI .i64 (a40.add 0) fun x41 =>
          ldI .i64 (a40.add 1) fun x42 =>
          ldI .i64 (a40.add 2) fun x43 =>
          ldStr (a40.add 3) fun x44 =>
          ldI .i64 (a40.add 4) fun x45 =>
          cond (!((decide (x35 = x41) && (decide (x36 = x42) && (decide (x37 = x43) && (decide (x38 = x44) && (decide (x39 = x45) && true))))))) (
            kr false) (
            kn x0 x1 x2))) (
        cond (decide (x12 = 9)) (
          st1 ((x11.add 3).add 0) (.str [115, 116, 101, 112]) <|
          ldI .i64 (x11.add 0) fun x46 =>
          ldI .i64 (x11.add 1) fun x47 =>
          ldI .i64 (x11.add 2) fun x48 =>
          ldStr (x11.add 3) fun x49 =>
          ldI .i64 (x11.add 4) fun x50 =>
          idxSl x1 x2 5 fun a51 =>
          ldI .i64 (a51.add 0) fun x52 =>
          ldI .i64 (a51.add 1) fun x53 =>
          ldI .i64 (a51.add 2) fun x54 =>
          ldStr (a51.add 3) fun x55 =>
          ldI .i64 (a51.add 4) fun x56 =>
          cond (!((decide (x46 = x52) && (decide (x47 = x53) && (decide (x48 = x54) && (decide (x49 = x55) && (decide (x50 = x56) && true))))))) (
            kr false) (
            kn x0 x1 x2)) (
          ldI .i64 (x11.add 0) fun x57 =>
          ldI .i64 (x11.add 1) fun x58 =>
          ldI .i64 (x11.add 2) fun x59 =>
          ldStr (x11.add 3) fun x60 =>
          ldI .i64 (x11.add 4) fun x61 =>
          idxSl x1 x2 5 fun a62 =>
          ldI .i64 (a62.add 0) fun x63 =>
          ldI .i64 (a62.add 1) fun x64 =>
          ldI .i64 (a62.add 2) fun x65 =>
          ldStr (a62.add 3) fun x66 =>
          ldI .i64 (a62.add 4) fun x67 =>
          cond (!((decide (x57 = x63) && (decide (x58 = x64) && (decide (x59 = x65) && (decide (x60 = x66) && (decide (x61 = x67) && true))))))) (
            kr false) (
            kn x0 x1 x2))))) (
    cond (decide (x12 = 12)) (
      st1 ((x11.add 3).add 0) (.str [111, 110, 101]) <|
      ldI .i64 (x11.add 0) fun x68 =>
      ldI .i64 (x11.add 1) fun x69 =>
      ldI .i64 (x11.add 2) fun x70 =>
      ldStr (x11.add 3) fun x71 =>
      ldI .i64 (x11.add 4) fun x72 =>
      idxSl x1 x2 5 fun a73 =>
      ldI .i64 (a73.add 0) fun x74 =>
      ldI .i64 (a73.add 1) fun x75 =>
      ldI .i64 (a73.add 2) fun x76 =>
      ldStr (a73.add 3) fun x77 =>
      ldI .i64 (a73.add 4) fun x78 =>
      cond (!((decide (x68 = x74) && (decide (x69 = x75) && (decide (x70 = x76) && (decide (x71 = x77) && (decide (x72 = x78) && true))))))) (
        kr false) (
        kn x0 x1 x2)) (
      cond (decide (x12 = 8)) (
        cond (decide (x12 = 8)) (
          st1 ((x11.add 3).add 0) (.str [115, 116, 101, 112]) <|
          ldI .i64 (x11.add 0) fun x79 =>
          ldI .i64 (x11.add 1) fun x80 =>
          ldI .i64 (x11.add 2) fun x81 =>
          ldStr (x11.add 3) fun x82 =>
          ldI .i64 (x11.add 4) fun x83 =>
          idxSl x1 x2 5 fun a84 =>
          ldI .i64 (a84.add 0) fun x85 =>
          ldI .i64 (a84.add 1) fun x86 =>
          ldI .i64 (a84.add 2) fun x87 =>
          ldStr (a84.add 3) fun x88 =>
          ldI .i64 (a84.add 4) fun x89 =>
          cond (!((decide (x79 = x85) && (decide (x80 = x86) && (decide (x81 = x87) && (decide (x82 = x88) && (decide (x83 = x89) && true))))))) (
            kr false) (
            kn x0 x1 x2)) (
          ldI .i64 (x11.add 0) fun x90 =>
          ldI .i64 (x11.add 1) fun x91 =>
          ldI .i64 (x11.add 2) fun x92 =>
          ldStr (x11.add 3) fun x93 =>
          ldI .i64 (x11.add 4) fun x94 =>
          idxSl x1 x2 5 fun a95 =>
          ldI .i64 (a95.add 0) fun x96 =>
          ldI .i64 (a95.add 1) fun x97 =>
          ldI .i64 (a95.add 2) fun x98 =>
          ldStr (a95.add 3) fun x99 =>
          ldI .i64 (a95.add 4) fun x100 =>
          cond (!((decide (x90 = x96) && (decide (x91 = x97) && (decide (x92 = x98) && (decide (x93 = x99) && (decide (x94 = x100) && true))))))) (
            kr false) (
            kn x0 x1 x2))) (
        cond (decide (x12 = 9)) (
          st1 ((x11.add 3).add 0) (.str [115, 116, 101, 112]) <|
          ldI .i64 (x11.add 0) fun x101 =>
          ldI .i64 (x11.add 1) fun x102 =>
          ldI .i64 (x11.add 2) fun x103 =>
          ldStr (x11.add 3) fun x104 =>
          ldI .i64 (x11.add 4) fun x105 =>
          idxSl x1 x2 5 fun a106 =>
          ldI .i64 (a106.add 0) fun x107 =>
          ldI .i64 (a106.add 1) fun x108 =>
          ldI .i64 (a106.add 2) fun x109 =>
          ldStr (a106.add 3) fun x110 =>
          ldI .i64 (a106.add 4) fun x111 =>
          cond (!((decide (x101 = x107) && (decide (x102 = x108) && (decide (x103 = x109) && (decide (x104 = x110) && (decide (x105 = x111) && true))))))) (
            kr false) (
            kn x0 x1 x2)) (
          ldI .i64 (x11.add 0) fun x112 =>
          ldI .i64 (x11.add 1) fun x113 =>
          ldI .i64 (x11.add 2) fun x114 =>
          ldStr (x11.add 3) fun x115 =>
          ldI .i64 (x11.add 4) fun x116 =>
          idxSl x1 x2 5 fun a117 =>
          ldI .i64 (a117.add 0) fun x118 =>
          ldI .i64 (a117.add 1) fun x119 =>
          ldI .i64 (a117.add 2) fun x120 =>
          ldStr (a117.add 3) fun x121 =>
          ldI .i64 (a117.add 4) fun x122 =>
          cond (!((decide (x112 = x118) && (decide (x113 = x119) && (decide (x114 = x120) && (decide (x115 = x121) && (decide (x116 = x122) && true))))))) (
            kr false) (
            kn x0 x1 x2)))))
noncomputable def w6NormNames.u11.c : IC := (.seq (.ops 22 (opsOf Try.f3 22)) (.seq (.seq (.ops 23 (opsOf Try.f3 23)) (.block 5 (.seq (.seq (.ops 24 (opsOf Try.f3 24)) (.cond (.tmp 72) .skip (.ops 25 (opsOf Try.f3 25)))) (.cond (.tmp 72) (.ops 26 (opsOf Try.f3 26)) (.seq (.seq (.ops 27 (opsOf Try.f3 27)) (.cond (.tmp 76) .skip (.ops 28 (opsOf Try.f3 28)))) (.cond (.tmp 76) (.ops 29 (opsOf Try.f3 29)) .skip)))))) (.seq (.drawn 30 (opsOf Try.f3 30) true [.op 0, .op 1, .op 2, .op 3, .op 4, .op 5]) (.cut [6, 7, 8] (.cond (.tmp 85) (.seq (.ops 31 (opsOf Try.f3 31)) (.ret [2])) .skip)))))
noncomputable abbrev w6NormNames.u12.f (k : Nat) (x0 : Sl) (x1 : Sl) (x2 : Int) (kn : Sl → Sl → Int → M α) (kr : Bool → M α) : M α :=
  w6NormNames.u11.f k x0 x1 x2 (fun y0 y1 y2 => kn y0 y1 y2) kr
noncomputable def w6NormNames.u12.c : IC := .block 4 w6NormNames.u11.c
noncomputable def w6NormNames.u13.f (k : Nat) (x0 : Sl) (x1 : Sl) (x2 : Int) (kn : Sl → Sl → Int → M α) : M α :=
  kn x0 x1 (w64 (x2 + 1))
noncomputable def w6NormNames.u13.c : IC := (.cut [6, 7, 8] (.ops 21 (opsOf Try.f3 21)))
noncomputable abbrev w6NormNames.u14.f (k : Nat) (x0 : Sl) (x1 : Sl) (x2 : Int) (kn : Sl → Sl → Int → M α) (kr : Bool → M α) : M α :=
  w6NormNames.u12.f k x0 x1 x2 (fun y0 y1 y2 => w6NormNames.u13.f k y0 y1 y2 kn) kr
noncomputable def w6NormNames.u14.c : IC := (.seq w6NormNames.u12.c w6NormNames.u13.c)
noncomputable abbrev w6NormNames.u15.f (k : Nat) (x0 : Sl) (x1 : Sl) (x2 : Int) (kn : Sl → Sl → Int → M α) (kr : Bool → M α) (kx3 : Sl → Sl → M α) : M α :=
  w6NormNames.u10.f k x0 x1 x2 (fun y0 y1 y2 => w6NormNames.u14.f k y0 y1 y2 kn kr) kx3
noncomputable def w6NormNames.u15.c : IC := w6NormNames.u10.c w6NormNames.u14.c
noncomputable def w6NormNames.u16.l (k : Nat) (kr : Bool → M α) (kx3 : Sl → Sl → M α) : Nat → Sl → Sl → Int → M α
  | 0, _, _, _ => fail
  | j + 1, x0, x1, x2 =>
    w6NormNames.u15.f k x0 x1 x2 (fun y0 y1 y2 => w6NormNames.u16.l k kr kx3 j y0 y1 y2) kr kx3
noncomputable abbrev w6NormNames.u16.f (k : Nat) (x0 : Sl) (x1 : Sl) (x2 : Int) (kr : Bool → M α) (kx3 : Sl → Sl → M α) : M α :=
  w6NormNames.u16.l k kr kx3 k x0 x1 x2
noncomputable def w6NormNames.u16.c : IC := .loop [6, 7, 8] w6NormNames.u15.c
noncomputable abbrev w6NormNames.u17.f (k : Nat) (x0 : Sl) (x1 : Sl) (x2 : Int) (kn : Sl → Sl → M α) (kr : Bool → M α) : M α :=
  w6NormNames.u16.f k x0 x1 x2 kr (fun y0 y1 => kn y0 y1)
noncomputable def w6NormNames.u17.c : IC := .block 3 w6NormNames.u16.c
noncomputable abbrev w6NormNames.u18.f (k : Nat) (x0 : Sl) (x1 : Sl) (kn : Sl → Sl → M α) (kr : Bool → M α) : M α :=
  w6NormNames.u9.f k x0 x1 (fun y0 y1 y2 => w6NormNames.u17.f k y0 y1 y2 kn kr)
noncomputable def w6NormNames.u18.c : IC := w6NormNames.u9.c w6NormNames.u17.c
noncomputable def w6NormNames.u19.f (k : Nat) (x0 : Sl) (x1 : Sl) (kr : Bool → M α) : M α :=
  kr (decide ((x0.len : Int) = (x1.len : Int)))
noncomputable def w6NormNames.u19.c : IC := (.seq (.ops 32 (opsOf Try.f3 32)) (.ret [2]))
noncomputable abbrev w6NormNames.u20.f (k : Nat) (x0 : Sl) (x1 : Sl) (kr : Bool → M α) : M α :=
  w6NormNames.u18.f k x0 x1 (fun y0 y1 => w6NormNames.u19.f k y0 y1 kr) kr
noncomputable def w6NormNames.u20.c : IC := (.seq w6NormNames.u18.c w6NormNames.u19.c)
noncomputable abbrev w6NormNames.u21.f (k : Nat) (x0 : Sl) (x1 : Sl) (kr : Bool → M α) : M α :=
  w6NormNames.u8.f k x0 x1 (fun y0 y1 => w6NormNames.u20.f k y0 y1 kr) kr
noncomputable def w6NormNames.u21.c : IC := w6NormNames.u8.c w6NormNames.u20.c
noncomputable abbrev w6NormNames.u22.f (k : Nat) (x0 : Sl) (x1 : Bool) (x2 : Sl) (kr : Bool → M α) : M α :=
  w6NormNames.u7.f k x0 x1 x2 (fun y0 y1 => w6NormNames.u21.f k y0 y1 kr) kr
noncomputable def w6NormNames.u22.c : IC := w6NormNames.u7.c w6NormNames.u21.c
noncomputable abbrev w6NormNames.u23.f (k : Nat) (x0 : Sl) (x1 : Bool) (x2 : Sl) (kr : Bool → M α) : M α :=
  w6NormNames.u6.f k x0 x1 x2 (fun y0 y1 y2 => w6NormNames.u22.f k y0 y1 y2 kr)
noncomputable def w6NormNames.u23.c : IC := (.seq w6NormNames.u6.c w6NormNames.u22.c)
noncomputable abbrev w6NormNames.u24.f (k : Nat) (x0 : Sl) (kr : Bool → M α) : M α :=
  w6NormNames.u1.f k x0 (fun y0 y1 y2 => w6NormNames.u23.f k y0 y1 y2 kr)
noncomputable def w6NormNames.u24.c : IC := w6NormNames.u1.c w6NormNames.u23.c
noncomputable def w6NormNames.f : Nat → Sl → (Bool → M α) → M α
  | 0, _, _ => fail
  | k + 1, x0, ret =>
    w6NormNames.u24.f k x0 (fun y0 =>
      ret y0)
noncomputable def norm_Negate.u1.f (k : Nat) (x0 : Sl) (kr : Sl → M α) : M α :=
  norm_form.f k x0 true fun r3 =>
  kr r3
noncomputable def norm_Negate.u1.c : IC := (.seq (.ops 0 (opsOf Try.f11 0)) (.seq (.ops 1 (opsOf Try.f11 1)) (.ret [2])))
noncomputable def norm_Negate.f : Nat → Sl → (Sl → M α) → M α
  | 0, _, _ => fail
  | k + 1, x0, ret =>
    norm_Negate.u1.f k x0 (fun y0 =>
      ret y0)
noncomputable def ti : Nat → Option TI
  | 3 => some ⟨Try.t3.desc, 1, 8, [.int .i64 0], [.int .i64], false, false⟩
  | 4 => some ⟨Try.t4.desc, 1, 1, [.bool false], [.bool], false, false⟩
  | 5 => some ⟨Try.t5.desc, 1, 1, [.int .u8 0], [.int .u8], false, false⟩
  | 9 => some ⟨Try.t9.desc, 1, 16, [.str []], [.str], false, false⟩
  | 20 => some ⟨Try.t20.desc, 1, 16, [.nilIface], [.any], false, false⟩
  | 22 => some ⟨Try.t22.desc, 1, 24, [.slice Sl.nil], [.slice], false, false⟩
  | 25 => some ⟨Try.t24.desc, 5, 48, [.int .i64 0, .int .i64 0, .int .i64 0, .str [], .int .i64 0], [.int .i64, .int .i64, .int .i64, .str, .int .i64], true, true⟩
  | 31 => some ⟨Try.t3.desc, 1, 8, [.int .i64 0], [.int .i64], false, false⟩
  | 35 => some ⟨Try.t34.desc, 1, 16, [.nilIface], [.any], false, false⟩
  | 44 => some ⟨Try.t44.desc, 1, 8, [.map none], [.map], false, false⟩
  | 45 => some ⟨Try.t45.desc, 1, 24, [.slice Sl.nil], [.slice], false, false⟩
  | 46 => some ⟨Try.t46.desc, 1, 24, [.slice Sl.nil], [.slice], false, false⟩
  | 47 => some ⟨Try.t47.desc, 1, 24, [.slice Sl.nil], [.slice], false, false⟩
  | 49 => some ⟨Try.t48.desc, 6, 128, [.slice Sl.nil, .slice Sl.nil, .int .i64 0, .slice Sl.nil, .slice Sl.nil, .slice Sl.nil], [.slice, .slice, .int .i64, .slice, .slice, .slice], true, false⟩
  | 55 => some ⟨Try.t55.desc, 1, 24, [.slice Sl.nil], [.slice], false, false⟩
  | 59 => some ⟨Try.t58.desc, 2, 16, [.int .i64 0, .int .i64 0], [.int .i64, .int .i64], true, true⟩
  | 61 => some ⟨Try.t60.desc, 2, 16, [.int .i64 0, .int .i64 0], [.int .i64, .int .i64], true, false⟩
  | 62 => some ⟨Try.t62.desc, 1, 8, [.ptr none], [.ptr], false, false⟩
  | 66 => some ⟨Try.t65.desc, 4, 40, [.int .i64 0, .int .i64 0, .str [], .int .i64 0], [.int .i64, .int .i64, .str, .int .i64], true, true⟩
  | 69 => some ⟨Try.t68.desc, 3, 56, [.slice Sl.nil, .int .i64 0, .slice Sl.nil], [.slice, .int .i64, .slice], true, false⟩
  | 73 => some ⟨Try.t72.desc, 2, 48, [.slice Sl.nil, .slice Sl.nil], [.slice, .slice], true, false⟩
  | 89 => some ⟨Try.t88.desc, 2, 16, [.int .i64 0, .int .i64 0], [.int .i64, .int .i64], true, true⟩
  | _ => none
noncomputable def T : Tab := ⟨ti, fun _ => none, fun t => false⟩
noncomputable def env_74 (k : Nat) (args : List V) (κ : Res → M α) : M α := match args with
  | [a0, a1] =>
      asStr a0 fun x1 =>
      asI .u8 a1 fun x2 =>
      bytealg_IndexByteString.f k x1 x2 (fun o0 => κ (.ret (.int .i64 o0)))
  | _ => fail
noncomputable def env_64 (k : Nat) (args : List V) (κ : Res → M α) : M α := match args with
  | [a0, a1] =>
      asStr a0 fun x1 =>
      asI .u8 a1 fun x2 =>
      stringslite_IndexByte.f k x1 x2 (fun o0 => κ (.ret (.int .i64 o0)))
  | _ => fail
noncomputable def env_50 (k : Nat) (args : List V) (κ : Res → M α) : M α := match args with
  | [a0, a1] =>
      asStr a0 fun x1 =>
      asI .u8 a1 fun x2 =>
      strings_IndexByte.f k x1 x2 (fun o0 => κ (.ret (.int .i64 o0)))
  | _ => fail
noncomputable def env_65 (k : Nat) (args : List V) (κ : Res → M α) : M α := match args with
  | [a0] =>
      asI .u8 a0 fun x1 =>
      scan_kind.f k x1 (fun o0 => κ (.ret (.int .i64 o0)))
  | _ => fail
noncomputable def env_66 (k : Nat) (args : List V) (κ : Res → M α) : M α := match args with
  | [a0, a1] =>
      asI .i64 a0 fun x1 =>
      asStr a1 fun x2 =>
      scan_long.f k x1 x2 (fun o0 => κ (.ret (.int .i64 o0)))
  | _ => fail
noncomputable def env_67 (k : Nat) (args : List V) (κ : Res → M α) : M α := match args with
  | [a0] =>
      asStr a0 fun x1 =>
      scan_value.f k x1 (fun o0 o1 => κ (.ret (.tuple [.int .i64 o0, .bool o1])))
  | _ => fail
noncomputable def env_51 (k : Nat) (args : List V) (κ : Res → M α) : M α := match args with
  | [a0, a1] =>
      asStr a0 fun x1 =>
      asI .i64 a1 fun x2 =>
      scan_token.f k x1 x2 (fun o0 o1 o2 o3 o4 => κ (.ret (.tuple [.agg [.int .i64 o0, .int .i64 o1, .str o2, .int .i64 o3], .int .i64 o4])))
  | _ => fail
noncomputable def env_34 (k : Nat) (args : List V) (κ : Res → M α) : M α := match args with
  | [a0] =>
      asStr a0 fun x1 =>
      scan_All.f k x1 (fun o0 o1 => κ (.ret (.tuple [.slice o0, o1])))
  | _ => fail
noncomputable def env_37 (k : Nat) (args : List V) (κ : Res → M α) : M α := match args with
  | [a0] =>
      asAgg a0 fun l1 =>
      uncons l1 fun v2 l3 =>
      asI .i64 v2 fun x4 =>
      uncons l3 fun v5 l6 =>
      asI .i64 v5 fun x7 =>
      uncons l6 fun v8 l9 =>
      asStr v8 fun x10 =>
      uncons l9 fun v11 l12 =>
      asI .i64 v11 fun x13 =>
      unnil l12 <|
      syntax_Parse_c2.f k x4 x7 x10 x13 (fun o0 => κ (.ret (.bool o0)))
  | _ => fail
noncomputable def env_52 (k : Nat) (args : List V) (κ : Res → M α) : M α := match args with
  | [a0, a1] =>
      asS a0 fun x1 =>
      asFunc a1 fun f2 l3 l4 =>
      need (Nat.beq f2 37) <|
      unnil l3 <|
      unnil l4 <|
      slices_IndexFunc_Token_Token_37.f k x1 (fun o0 => κ (.ret (.int .i64 o0)))
  | _ => fail
noncomputable def env_36 (k : Nat) (args : List V) (κ : Res → M α) : M α := match args with
  | [a0, a1] =>
      asS a0 fun x1 =>
      asFunc a1 fun f2 l3 l4 =>
      need (Nat.beq f2 37) <|
      unnil l3 <|
      unnil l4 <|
      slices_DeleteFunc_Token_Token_37.f k x1 (fun o0 => κ (.ret (.slice o0)))
  | _ => fail
noncomputable def env_68 (k : Nat) (args : List V) (κ : Res → M α) : M α := match args with
  | [a0, a1] =>
      asP a0 fun x1 =>
      asSome x1 fun p2 =>
      asStr a1 fun x3 =>
      spis.f k p2 x3 (fun o0 => κ (.ret (.bool o0)))
  | _ => fail
noncomputable def env_75 (k : Nat) (args : List V) (κ : Res → M α) : M α := match args with
  | [a0] =>
      asP a0 fun x1 =>
      asSome x1 fun p2 =>
      spnext.f k p2 (fun o0 o1 o2 o3 => κ (.ret (.agg [.int .i64 o0, .int .i64 o1, .str o2, .int .i64 o3])))
  | _ => fail
noncomputable def env_69 (k : Nat) (args : List V) (κ : Res → M α) : M α := match args with
  | [a0] =>
      asP a0 fun x1 =>
      asSome x1 fun p2 =>
      spmakes.f k p2 (fun v => κ (.pan v)) (fun o0 o1 o2 o3 => κ (.ret (.agg [.int .i64 o0, .int .i64 o1, .str o2, .int .i64 o3])))
  | _ => fail
noncomputable def env_70 (k : Nat) (args : List V) (κ : Res → M α) : M α := match args with
  | [a0, a1] =>
      asP a0 fun x1 =>
      asSome x1 fun p2 =>
      asAgg a1 fun l3 =>
      uncons l3 fun v4 l5 =>
      asI .i64 v4 fun x6 =>
      uncons l5 fun v7 l8 =>
      asI .i64 v7 fun x9 =>
      uncons l8 fun v10 l11 =>
      asI .i64 v10 fun x12 =>
      uncons l11 fun v13 l14 =>
      asStr v13 fun x15 =>
      uncons l14 fun v16 l17 =>
      asI .i64 v16 fun x18 =>
      unnil l17 <|
      spnode.f k p2 x6 x9 x12 x15 x18 (fun o0 => κ (.ret (.int .i64 o0)))
  | _ => fail
noncomputable def env_39 (k : Nat) (args : List V) (κ : Res → M α) : M α := match args with
  | [a0] =>
      asP a0 fun x1 =>
      asSome x1 fun p2 =>
      spwrong.f k p2 (fun v => κ (.pan v)) (κ (.ret (.tuple [])))
  | _ => fail
noncomputable def env_63 (k : Nat) (args : List V) (κ : Res → M α) : M α := match args with
  | [a0] =>
      asStr a0 fun x1 =>
      syntax_word.f k x1 (fun o0 => κ (.ret (.bool o0)))
  | _ => fail
noncomputable def env_77 (k : Nat) (args : List V) (κ : Res → M α) : M α := match args with
  | [a0, a1] =>
      asP a0 fun x1 =>
      asSome x1 fun p2 =>
      asStr a1 fun x3 =>
      spneed.f k p2 x3 (fun v => κ (.pan v)) (κ (.ret (.tuple [])))
  | _ => fail
noncomputable def env_76 (k : Nat) (args : List V) (κ : Res → M α) : M α := match args with
  | [a0, a1] =>
      asP a0 fun x1 =>
      asSome x1 fun p2 =>
      asStr a1 fun x3 =>
      spstep.f k p2 x3 (fun v => κ (.pan v)) (fun o0 => κ (.ret (.str o0)))
  | _ => fail
noncomputable def env_38 (k : Nat) (args : List V) (κ : Res → M α) : M α := match args with
  | [a0] =>
      asP a0 fun x1 =>
      asSome x1 fun p2 =>
      spformula.f k p2 (fun v => κ (.pan v)) (fun o0 => κ (.ret (.int .i64 o0)))
  | _ => fail
noncomputable def env_53 (k : Nat) (args : List V) (κ : Res → M α) : M α := match args with
  | [a0, a1, a2, a3] =>
      asP a0 fun x1 =>
      asSome x1 fun p2 =>
      asStr a1 fun x3 =>
      asI .i64 a2 fun x4 =>
      sprow.f k p2 x3 x4 a3 (fun v => κ (.pan v)) (fun o0 => κ (.ret (.int .i64 o0)))
  | _ => fail
noncomputable def env_54 (k : Nat) (args : List V) (κ : Res → M α) : M α := match args with
  | [a0] =>
      asP a0 fun x1 =>
      asSome x1 fun p2 =>
      spand.f k p2 (fun v => κ (.pan v)) (fun o0 => κ (.ret (.int .i64 o0)))
  | _ => fail
noncomputable def env_71 (k : Nat) (args : List V) (κ : Res → M α) : M α := match args with
  | [a0] =>
      asP a0 fun x1 =>
      asSome x1 fun p2 =>
      spunary.f k p2 (fun v => κ (.pan v)) (fun o0 => κ (.ret (.int .i64 o0)))
  | _ => fail
noncomputable def env_78 (k : Nat) (args : List V) (κ : Res → M α) : M α := match args with
  | [a0] =>
      asP a0 fun x1 =>
      asSome x1 fun p2 =>
      spword.f k p2 (fun v => κ (.pan v)) (fun o0 => κ (.ret (.int .i64 o0)))
  | _ => fail
noncomputable def env_21 (k : Nat) (args : List V) (κ : Res → M α) : M α := match args with
  | [a0] =>
      asStr a0 fun x1 =>
      syntax_Parse.f k x1 (fun o0 o1 => κ (.ret (.tuple [.slice o0, o1])))
  | _ => fail
noncomputable def env_45 (k : Nat) (args : List V) (κ : Res → M α) : M α := match args with
  | [a0] =>
      asS a0 fun x1 =>
      slices_Clone_Node_Node.f k x1 (fun o0 => κ (.ret (.slice o0)))
  | _ => fail
noncomputable def env_62 (k : Nat) (args : List V) (κ : Res → M α) : M α := match args with
  | [a0, a1, a2] =>
      asStr a0 fun x1 =>
      asI .u8 a1 fun x2 =>
      asI .u8 a2 fun x3 =>
      syntax_spelt.f k x1 x2 x3 (fun o0 => κ (.ret (.bool o0)))
  | _ => fail
noncomputable def env_47 (k : Nat) (args : List V) (κ : Res → M α) : M α := match args with
  | [a0] =>
      asStr a0 fun x1 =>
      syntax_name.f k x1 (fun o0 => κ (.ret (.bool o0)))
  | _ => fail
noncomputable def env_48 (k : Nat) (args : List V) (κ : Res → M α) : M α := match args with
  | [a0] =>
      asStr a0 fun x1 =>
      syntax_variable.f k x1 (fun o0 => κ (.ret (.bool o0)))
  | _ => fail
noncomputable def env_30 (k : Nat) (args : List V) (κ : Res → M α) : M α := match args with
  | [a0] =>
      asAgg a0 fun l1 =>
      uncons l1 fun v2 l3 =>
      asI .i64 v2 fun x4 =>
      uncons l3 fun v5 l6 =>
      asI .i64 v5 fun x7 =>
      uncons l6 fun v8 l9 =>
      asI .i64 v8 fun x10 =>
      uncons l9 fun v11 l12 =>
      asStr v11 fun x13 =>
      uncons l12 fun v14 l15 =>
      asI .i64 v14 fun x16 =>
      unnil l15 <|
      syntax_below.f k x4 x7 x10 x13 x16 (fun o0 o1 => κ (.ret (.tuple [.int .i64 o0, .bool o1])))
  | _ => fail
noncomputable def env_32 (k : Nat) (args : List V) (κ : Res → M α) : M α := match args with
  | [a0] =>
      asI .i64 a0 fun x1 =>
      syntax_Right_c1.f k x1 (fun o0 => κ (.ret (.bool o0)))
  | _ => fail
noncomputable def env_49 (k : Nat) (args : List V) (κ : Res → M α) : M α := match args with
  | [a0, a1] =>
      asS a0 fun x1 =>
      asFunc a1 fun f2 l3 l4 =>
      need (Nat.beq f2 32) <|
      unnil l3 <|
      unnil l4 <|
      slices_IndexFunc_int_int_32.f k x1 (fun o0 => κ (.ret (.int .i64 o0)))
  | _ => fail
noncomputable def env_31 (k : Nat) (args : List V) (κ : Res → M α) : M α := match args with
  | [a0, a1] =>
      asS a0 fun x1 =>
      asFunc a1 fun f2 l3 l4 =>
      need (Nat.beq f2 32) <|
      unnil l3 <|
      unnil l4 <|
      slices_ContainsFunc_int_int_32.f k x1 (fun o0 => κ (.ret (.bool o0)))
  | _ => fail
noncomputable def env_33 (k : Nat) (args : List V) (κ : Res → M α) : M α := match args with
  | [a0, a1] =>
      asS a0 fun x1 =>
      asS a1 fun x2 =>
      slEq.f k x1 x2 (fun o0 => κ (.ret (.bool o0)))
  | _ => fail
noncomputable def env_20 (k : Nat) (args : List V) (κ : Res → M α) : M α := match args with
  | [a0] =>
      asS a0 fun x1 =>
      syntax_Right.f k x1 (fun o0 => κ (.ret (.bool o0)))
  | _ => fail
noncomputable def env_61 (k : Nat) (args : List V) (κ : Res → M α) : M α := match args with
  | [a0, a1] =>
      asP a0 fun x1 =>
      asSome x1 fun p2 =>
      asStr a1 fun x3 =>
      bwfind.f k p2 x3 (fun o0 o1 o2 => κ (.ret (.tuple [.agg [.int .i64 o0, .int .i64 o1], .bool o2])))
  | _ => fail
noncomputable def env_46 (k : Nat) (args : List V) (κ : Res → M α) : M α := match args with
  | [a0, a1] =>
      asP a0 fun x1 =>
      asSome x1 fun p2 =>
      asI .i64 a1 fun x3 =>
      bwnode.f k p2 x3 (κ (.ret (.tuple [])))
  | _ => fail
noncomputable def env_28 (k : Nat) (args : List V) (κ : Res → M α) : M α := match args with
  | [a0] =>
      asS a0 fun x1 =>
      bind_walked.f k x1 (fun o0 => κ (.ret (.ptr (some o0))))
  | _ => fail
noncomputable def env_29 (k : Nat) (args : List V) (κ : Res → M α) : M α := match args with
  | [a0] =>
      asAgg a0 fun l1 =>
      uncons l1 fun v2 l3 =>
      asI .i64 v2 fun x4 =>
      uncons l3 fun v5 l6 =>
      asI .i64 v5 fun x7 =>
      uncons l6 fun v8 l9 =>
      asI .i64 v8 fun x10 =>
      uncons l9 fun v11 l12 =>
      asStr v11 fun x13 =>
      uncons l12 fun v14 l15 =>
      asI .i64 v14 fun x16 =>
      unnil l15 <|
      bind_fix.f k x4 x7 x10 x13 x16 (fun o0 => κ (.ret (.bool o0)))
  | _ => fail
noncomputable def env_19 (k : Nat) (args : List V) (κ : Res → M α) : M α := match args with
  | [a0] =>
      asS a0 fun x1 =>
      bind_Check.f k x1 (fun o0 o1 => κ (.ret (.tuple [.int .i64 o0, .int .i64 o1])))
  | _ => fail
noncomputable def env_27 (k : Nat) (args : List V) (κ : Res → M α) : M α := match args with
  | [a0] =>
      asS a0 fun x1 =>
      norm_wide.f k x1 (fun o0 => κ (.ret (.bool o0)))
  | _ => fail
noncomputable def env_55 (k : Nat) (args : List V) (κ : Res → M α) : M α := match args with
  | [a0] =>
      asI .i64 a0 fun x1 =>
      norm_dual.f k x1 (fun o0 => κ (.ret (.int .i64 o0)))
  | _ => fail
noncomputable def env_40 (k : Nat) (args : List V) (κ : Res → M α) : M α := match args with
  | [a0, a1, a2] =>
      asP a0 fun x1 =>
      asSome x1 fun p2 =>
      asI .i64 a1 fun x3 =>
      asB a2 fun x4 =>
      norm_maker_node.f k p2 x3 x4 (fun o0 => κ (.ret (.int .i64 o0)))
  | _ => fail
noncomputable def env_22 (k : Nat) (args : List V) (κ : Res → M α) : M α := match args with
  | [a0, a1] =>
      asS a0 fun x1 =>
      asB a1 fun x2 =>
      norm_form.f k x1 x2 (fun o0 => κ (.ret (.slice o0)))
  | _ => fail
noncomputable def env_9 (k : Nat) (args : List V) (κ : Res → M α) : M α := match args with
  | [a0] =>
      asS a0 fun x1 =>
      norm_Positive.f k x1 (fun o0 => κ (.ret (.slice o0)))
  | _ => fail
noncomputable def env_12 (k : Nat) (args : List V) (κ : Res → M α) : M α := match args with
  | [a0, a1, a2] =>
      asS a0 fun x1 =>
      asS a1 fun x2 =>
      asB a2 fun x3 =>
      r4Same.f k x1 x2 x3 (fun o0 => κ (.ret (.bool o0)))
  | _ => fail
noncomputable def env_26 (k : Nat) (args : List V) (κ : Res → M α) : M α := match args with
  | [a0] =>
      asAgg a0 fun l1 =>
      uncons l1 fun v2 l3 =>
      asI .i64 v2 fun x4 =>
      uncons l3 fun v5 l6 =>
      asI .i64 v5 fun x7 =>
      uncons l6 fun v8 l9 =>
      asI .i64 v8 fun x10 =>
      uncons l9 fun v11 l12 =>
      asStr v11 fun x13 =>
      uncons l12 fun v14 l15 =>
      asI .i64 v14 fun x16 =>
      unnil l15 <|
      norm_Is_c1.f k x4 x7 x10 x13 x16 (fun o0 => κ (.ret (.bool o0)))
  | _ => fail
noncomputable def env_44 (k : Nat) (args : List V) (κ : Res → M α) : M α := match args with
  | [a0, a1] =>
      asS a0 fun x1 =>
      asFunc a1 fun f2 l3 l4 =>
      need (Nat.beq f2 26) <|
      unnil l3 <|
      unnil l4 <|
      slices_IndexFunc_Node_Node_26.f k x1 (fun o0 => κ (.ret (.int .i64 o0)))
  | _ => fail
noncomputable def env_25 (k : Nat) (args : List V) (κ : Res → M α) : M α := match args with
  | [a0, a1] =>
      asS a0 fun x1 =>
      asFunc a1 fun f2 l3 l4 =>
      need (Nat.beq f2 26) <|
      unnil l3 <|
      unnil l4 <|
      slices_ContainsFunc_Node_Node_26.f k x1 (fun o0 => κ (.ret (.bool o0)))
  | _ => fail
noncomputable def env_15 (k : Nat) (args : List V) (κ : Res → M α) : M α := match args with
  | [a0] =>
      asS a0 fun x1 =>
      norm_Is.f k x1 (fun o0 => κ (.ret (.bool o0)))
  | _ => fail
noncomputable def env_8 (k : Nat) (args : List V) (κ : Res → M α) : M α := match args with
  | [] =>
      w6shown.f k (fun o0 => κ (.ret (.bool o0)))
  | _ => fail
noncomputable def env_3 (k : Nat) (args : List V) (κ : Res → M α) : M α := match args with
  | [a0] =>
      asS a0 fun x1 =>
      w6NormNames.f k x1 (fun o0 => κ (.ret (.bool o0)))
  | _ => fail
noncomputable def env_11 (k : Nat) (args : List V) (κ : Res → M α) : M α := match args with
  | [a0] =>
      asS a0 fun x1 =>
      norm_Negate.f k x1 (fun o0 => κ (.ret (.slice o0)))
  | _ => fail
noncomputable def env (k : Nat) : Call α := fun f args κ => match f with
  | 74 => env_74 k args κ
  | 64 => env_64 k args κ
  | 50 => env_50 k args κ
  | 65 => env_65 k args κ
  | 66 => env_66 k args κ
  | 67 => env_67 k args κ
  | 51 => env_51 k args κ
  | 34 => env_34 k args κ
  | 37 => env_37 k args κ
  | 52 => env_52 k args κ
  | 36 => env_36 k args κ
  | 68 => env_68 k args κ
  | 75 => env_75 k args κ
  | 69 => env_69 k args κ
  | 70 => env_70 k args κ
  | 39 => env_39 k args κ
  | 63 => env_63 k args κ
  | 77 => env_77 k args κ
  | 76 => env_76 k args κ
  | 38 => env_38 k args κ
  | 53 => env_53 k args κ
  | 54 => env_54 k args κ
  | 71 => env_71 k args κ
  | 78 => env_78 k args κ
  | 21 => env_21 k args κ
  | 45 => env_45 k args κ
  | 62 => env_62 k args κ
  | 47 => env_47 k args κ
  | 48 => env_48 k args κ
  | 30 => env_30 k args κ
  | 32 => env_32 k args κ
  | 49 => env_49 k args κ
  | 31 => env_31 k args κ
  | 33 => env_33 k args κ
  | 20 => env_20 k args κ
  | 61 => env_61 k args κ
  | 46 => env_46 k args κ
  | 28 => env_28 k args κ
  | 29 => env_29 k args κ
  | 19 => env_19 k args κ
  | 27 => env_27 k args κ
  | 55 => env_55 k args κ
  | 40 => env_40 k args κ
  | 22 => env_22 k args κ
  | 9 => env_9 k args κ
  | 12 => env_12 k args κ
  | 26 => env_26 k args κ
  | 44 => env_44 k args κ
  | 25 => env_25 k args κ
  | 15 => env_15 k args κ
  | 8 => env_8 k args κ
  | 3 => env_3 k args κ
  | 11 => env_11 k args κ
  | _ => fail
noncomputable def stringslite_IndexByte.c : IC := stringslite_IndexByte.u1.c
noncomputable def stringslite_IndexByte.res : List ResultVar := [(.tmp 4)]
theorem stringslite_IndexByte.u1.ok (k : Nat) (x0 : List UInt8) (x1 : Int) (K : Ex → Frame → M α) :
    evC T (env k) k stringslite_IndexByte.u1.c (frameL [(0, .str x0), (1, .int .u8 x1)]) K =
      stringslite_IndexByte.u1.f k x0 x1 (fun y0 => K .ret (frameL [(4, .int .i64 y0)])) := by kernel_rfl
theorem stringslite_IndexByte.ok (k : Nat) (x0 : List UInt8) (x1 : Int) (κ : Res → M α) :
    evF T (env k) k stringslite_IndexByte.c stringslite_IndexByte.res [.str x0, .int .u8 x1] κ = stringslite_IndexByte.f (k + 1) x0 x1 (fun o0 => κ (.ret (.int .i64 o0))) :=
  (stringslite_IndexByte.u1.ok k x0 x1 (retK T stringslite_IndexByte.res κ)).trans (by kernel_rfl)
theorem stringslite_IndexByte.code : stringslite_IndexByte.c.code = bodyOf Try.f64 := by kernel_rfl
noncomputable def strings_IndexByte.c : IC := strings_IndexByte.u1.c
noncomputable def strings_IndexByte.res : List ResultVar := [(.tmp 4)]
theorem strings_IndexByte.u1.ok (k : Nat) (x0 : List UInt8) (x1 : Int) (K : Ex → Frame → M α) :
    evC T (env k) k strings_IndexByte.u1.c (frameL [(0, .str x0), (1, .int .u8 x1)]) K =
      strings_IndexByte.u1.f k x0 x1 (fun y0 => K .ret (frameL [(4, .int .i64 y0)])) := by kernel_rfl
theorem strings_IndexByte.ok (k : Nat) (x0 : List UInt8) (x1 : Int) (κ : Res → M α) :
    evF T (env k) k strings_IndexByte.c strings_IndexByte.res [.str x0, .int .u8 x1] κ = strings_IndexByte.f (k + 1) x0 x1 (fun o0 => κ (.ret (.int .i64 o0))) :=
  (strings_IndexByte.u1.ok k x0 x1 (retK T strings_IndexByte.res κ)).trans (by kernel_rfl)
theorem strings_IndexByte.code : strings_IndexByte.c.code = bodyOf Try.f50 := by kernel_rfl
noncomputable def scan_kind.c : IC := scan_kind.u1.c
noncomputable def scan_kind.res : List ResultVar := [(.tmp 2)]
theorem scan_kind.u1.ok (k : Nat) (x0 : Int) (K : Ex → Frame → M α) :
    evC T (env k) k scan_kind.u1.c (frameL [(0, .int .u8 x0)]) K =
      scan_kind.u1.f k x0 (fun y0 => K .ret (frameL [(2, .int .i64 y0)])) := by kernel_rfl
theorem scan_kind.ok (k : Nat) (x0 : Int) (κ : Res → M α) :
    evF T (env k) k scan_kind.c scan_kind.res [.int .u8 x0] κ = scan_kind.f (k + 1) x0 (fun o0 => κ (.ret (.int .i64 o0))) :=
  (scan_kind.u1.ok k x0 (retK T scan_kind.res κ)).trans (by kernel_rfl)
theorem scan_kind.code : scan_kind.c.code = bodyOf Try.f65 := by kernel_rfl
noncomputable def scan_long.c : IC := scan_long.u20.c
noncomputable def scan_long.res : List ResultVar := [(.tmp 4)]
theorem scan_long.u1.ok (k : Nat) (x0 : Int) (x1 : List UInt8) (R : IC) (K : Ex → Frame → M α) :
    evC T (env k) k (scan_long.u1.c R) (frameL [(0, .int .i64 x0), (1, .str x1)]) K =
      scan_long.u1.f k x0 x1 (fun y0 y1 y2 => evC T (env k) k R (frameL [(0, .int .i64 y0), (1, .str y1), (5, .int .i64 y2)]) K) := by kernel_rfl
theorem scan_long.u2.ok (k : Nat) (x0 : Int) (x1 : List UInt8) (x2 : Int) (R : IC) (K : Ex → Frame → M α) :
    evC T (env k) k (scan_long.u2.c R) (frameL [(0, .int .i64 x0), (1, .str x1), (5, .int .i64 x2)]) K =
      scan_long.u2.f k x0 x1 x2 (fun y0 y1 y2 => evC T (env k) k R (frameL [(1, .str y0), (5, .int .i64 y1), (6, .int .i64 y2)]) K) := by kernel_rfl
theorem scan_long.u3.ok (k : Nat) (x0 : List UInt8) (x1 : Int) (x2 : Int) (R : IC) (K : Ex → Frame → M α) :
    evC T (env k) k (scan_long.u3.c R) (frameL [(1, .str x0), (5, .int .i64 x1), (6, .int .i64 x2)]) K =
      scan_long.u3.f k x0 x1 x2 (fun y0 y1 y2 y3 => evC T (env k) k R (frameL [(1, .str y0), (5, .int .i64 y1), (6, .int .i64 y2), (7, .bool y3)]) K) := by kernel_rfl
theorem scan_long.u4.ok (k : Nat) (x0 : List UInt8) (x1 : Int) (K : Ex → Frame → M α) :
    evC T (env k) k scan_long.u4.c (frameL [(1, .str x0), (5, .int .i64 x1)]) K =
      scan_long.u4.f k x0 x1 (fun y0 y1 => K .normal (frameL [(1, .str y0), (5, .int .i64 y1)])) (fun y0 => K (.exit 1) (frameL [(5, .int .i64 y0)])) := by kernel_rfl
theorem scan_long.u5.ls (k : Nat) (kx1 : Int → M α) (j : Nat) (x0 : List UInt8) (x1 : Int) : scan_long.u5.l k kx1 (j + 1) x0 x1 =
  scan_long.u4.f k x0 x1 (fun y0 y1 => scan_long.u5.l k kx1 j y0 y1) kx1 := rfl
theorem scan_long.u5.okl (k : Nat) (K : Ex → Frame → M α) : ∀ (j : Nat) (x0 : List UInt8) (x1 : Int),
    evLoop (evC T (env k) k scan_long.u4.c) [1, 5] j (frameL [(1, .str x0), (5, .int .i64 x1)]) K = scan_long.u5.l k (fun y0 => K (.exit 1) (frameL [(5, .int .i64 y0)])) j x0 x1
  | 0, _, _ => rfl
  | j + 1, x0, x1 => by
      have h := scan_long.u4.ok k x0 x1 (seqK (fun ρ => evLoop (evC T (env k) k scan_long.u4.c) [1, 5] j ρ K) K)
      simp only [seqK_exit, seqK_ret, seqK_pan, seqK_normal, scan_long.u5.okl k K j] at h
      exact (evLoop_step (by kernel_rfl) h).trans (scan_long.u5.ls k (fun y0 => K (.exit 1) (frameL [(5, .int .i64 y0)])) j x0 x1).symm
theorem scan_long.u5.ok (k : Nat) (x0 : List UInt8) (x1 : Int) (x2 : Int) (x3 : Bool) (K : Ex → Frame → M α) :
    evC T (env k) k scan_long.u5.c (frameL [(1, .str x0), (5, .int .i64 x1), (6, .int .i64 x2), (7, .bool x3)]) K =
      scan_long.u5.f k x0 x1 x2 x3 (fun y0 => K (.exit 1) (frameL [(5, .int .i64 y0)])) :=
  evC_loop.trans <| (evLoop_keep (body := evC T (env k) k scan_long.u4.c) (keep := [1, 5]) (ρ := (frameL [(1, .str x0), (5, .int .i64 x1), (6, .int .i64 x2), (7, .bool x3)])) (ρ' := (frameL [(1, .str x0), (5, .int .i64 x1)])) (by kernel_rfl) k K).trans (scan_long.u5.okl k K k x0 x1)
theorem scan_long.u6.ok (k : Nat) (x0 : List UInt8) (x1 : Int) (x2 : Int) (x3 : Bool) (K : Ex → Frame → M α) :
    evC T (env k) k scan_long.u6.c (frameL [(1, .str x0), (5, .int .i64 x1), (6, .int .i64 x2), (7, .bool x3)]) K =
      scan_long.u6.f k x0 x1 x2 x3 (fun y0 => K .normal (frameL [(5, .int .i64 y0)])) :=
  (evC_block.trans (scan_long.u5.ok k x0 x1 x2 x3 (blockK 1 K))).trans (by kernel_rfl)
theorem scan_long.u7.ok (k : Nat) (x0 : List UInt8) (x1 : Int) (x2 : Int) (x3 : Bool) (R : IC) (K : Ex → Frame → M α) :
    evC T (env k) k (scan_long.u7.c R) (frameL [(1, .str x0), (5, .int .i64 x1), (6, .int .i64 x2), (7, .bool x3)]) K =
      scan_long.u7.f k x0 x1 x2 x3 (fun y0 y1 y2 => evC T (env k) k R (frameL [(1, .str y0), (5, .int .i64 y1), (27, .bool y2)]) K) := by kernel_rfl
theorem scan_long.u8.ok (k : Nat) (x0 : List UInt8) (x1 : Int) (K : Ex → Frame → M α) :
    evC T (env k) k scan_long.u8.c (frameL [(1, .str x0), (5, .int .i64 x1)]) K =
      scan_long.u8.f k x0 x1 (fun y0 y1 => K .normal (frameL [(1, .str y0), (5, .int .i64 y1)])) (fun y0 => K (.exit 3) (frameL [(5, .int .i64 y0)])) := by kernel_rfl
theorem scan_long.u9.ls (k : Nat) (kx3 : Int → M α) (j : Nat) (x0 : List UInt8) (x1 : Int) : scan_long.u9.l k kx3 (j + 1) x0 x1 =
  scan_long.u8.f k x0 x1 (fun y0 y1 => scan_long.u9.l k kx3 j y0 y1) kx3 := rfl
theorem scan_long.u9.okl (k : Nat) (K : Ex → Frame → M α) : ∀ (j : Nat) (x0 : List UInt8) (x1 : Int),
    evLoop (evC T (env k) k scan_long.u8.c) [1, 5] j (frameL [(1, .str x0), (5, .int .i64 x1)]) K = scan_long.u9.l k (fun y0 => K (.exit 3) (frameL [(5, .int .i64 y0)])) j x0 x1
  | 0, _, _ => rfl
  | j + 1, x0, x1 => by
      have h := scan_long.u8.ok k x0 x1 (seqK (fun ρ => evLoop (evC T (env k) k scan_long.u8.c) [1, 5] j ρ K) K)
      simp only [seqK_exit, seqK_ret, seqK_pan, seqK_normal, scan_long.u9.okl k K j] at h
      exact (evLoop_step (by kernel_rfl) h).trans (scan_long.u9.ls k (fun y0 => K (.exit 3) (frameL [(5, .int .i64 y0)])) j x0 x1).symm
theorem scan_long.u9.ok (k : Nat) (x0 : List UInt8) (x1 : Int) (x2 : Bool) (K : Ex → Frame → M α) :
    evC T (env k) k scan_long.u9.c (frameL [(1, .str x0), (5, .int .i64 x1), (27, .bool x2)]) K =
      scan_long.u9.f k x0 x1 x2 (fun y0 => K (.exit 3) (frameL [(5, .int .i64 y0)])) :=
  evC_loop.trans <| (evLoop_keep (body := evC T (env k) k scan_long.u8.c) (keep := [1, 5]) (ρ := (frameL [(1, .str x0), (5, .int .i64 x1), (27, .bool x2)])) (ρ' := (frameL [(1, .str x0), (5, .int .i64 x1)])) (by kernel_rfl) k K).trans (scan_long.u9.okl k K k x0 x1)
theorem scan_long.u10.ok (k : Nat) (x0 : List UInt8) (x1 : Int) (x2 : Bool) (K : Ex → Frame → M α) :
    evC T (env k) k scan_long.u10.c (frameL [(1, .str x0), (5, .int .i64 x1), (27, .bool x2)]) K =
      scan_long.u10.f k x0 x1 x2 (fun y0 => K .normal (frameL [(5, .int .i64 y0)])) :=
  (evC_block.trans (scan_long.u9.ok k x0 x1 x2 (blockK 3 K))).trans (by kernel_rfl)
theorem scan_long.u11.ok (k : Nat) (x0 : List UInt8) (x1 : Int) (x2 : Bool) (K : Ex → Frame → M α) :
    evC T (env k) k scan_long.u11.c (frameL [(1, .str x0), (5, .int .i64 x1), (27, .bool x2)]) K =
      scan_long.u11.f k x0 x1 x2 (fun y0 => K .normal (frameL [(5, .int .i64 y0)])) := by kernel_rfl
theorem scan_long.u12.ok (k : Nat) (x0 : List UInt8) (x1 : Int) (x2 : Bool) (K : Ex → Frame → M α) :
    evC T (env k) k scan_long.u12.c (frameL [(1, .str x0), (5, .int .i64 x1), (27, .bool x2)]) K =
      scan_long.u12.f k x0 x1 x2 (fun y0 => K .normal (frameL [(5, .int .i64 y0)])) :=
  evC_cond_run (g := x2) (by kernel_rfl) (scan_long.u10.ok k x0 x1 x2 K) (scan_long.u11.ok k x0 x1 x2 K)
theorem scan_long.u13.ok (k : Nat) (x0 : List UInt8) (x1 : Int) (x2 : Int) (x3 : Bool) (K : Ex → Frame → M α) :
    evC T (env k) k scan_long.u13.c (frameL [(1, .str x0), (5, .int .i64 x1), (6, .int .i64 x2), (7, .bool x3)]) K =
      scan_long.u13.f k x0 x1 x2 x3 (fun y0 => K .normal (frameL [(5, .int .i64 y0)])) :=
  (scan_long.u7.ok k x0 x1 x2 x3 scan_long.u12.c K).trans
    (congrArg (fun z => scan_long.u7.f k x0 x1 x2 x3 z) (funext fun y0 => (funext fun y1 => (funext fun y2 => scan_long.u12.ok k y0 y1 y2 K))))
theorem scan_long.u14.ok (k : Nat) (x0 : List UInt8) (x1 : Int) (x2 : Int) (x3 : Bool) (K : Ex → Frame → M α) :
    evC T (env k) k scan_long.u14.c (frameL [(1, .str x0), (5, .int .i64 x1), (6, .int .i64 x2), (7, .bool x3)]) K =
      scan_long.u14.f k x0 x1 x2 x3 (fun y0 => K .normal (frameL [(5, .int .i64 y0)])) :=
  evC_cond_run (g := x3) (by kernel_rfl) (scan_long.u6.ok k x0 x1 x2 x3 K) (scan_long.u13.ok k x0 x1 x2 x3 K)
theorem scan_long.u15.ok (k : Nat) (x0 : List UInt8) (x1 : Int) (x2 : Int) (K : Ex → Frame → M α) :
    evC T (env k) k scan_long.u15.c (frameL [(1, .str x0), (5, .int .i64 x1), (6, .int .i64 x2)]) K =
      scan_long.u15.f k x0 x1 x2 (fun y0 => K .normal (frameL [(5, .int .i64 y0)])) :=
  (scan_long.u3.ok k x0 x1 x2 scan_long.u14.c K).trans
    (congrArg (fun z => scan_long.u3.f k x0 x1 x2 z) (funext fun y0 => (funext fun y1 => (funext fun y2 => (funext fun y3 => scan_long.u14.ok k y0 y1 y2 y3 K)))))
theorem scan_long.u16.ok (k : Nat) (x0 : List UInt8) (x1 : Int) (x2 : Int) (K : Ex → Frame → M α) :
    evC T (env k) k scan_long.u16.c (frameL [(1, .str x0), (5, .int .i64 x1), (6, .int .i64 x2)]) K =
      scan_long.u16.f k x0 x1 x2 (fun y0 => K .normal (frameL [(5, .int .i64 y0)])) :=
  (evC_block.trans (scan_long.u15.ok k x0 x1 x2 (blockK 0 K))).trans (by kernel_rfl)
theorem scan_long.u17.ok (k : Nat) (x0 : Int) (x1 : List UInt8) (x2 : Int) (K : Ex → Frame → M α) :
    evC T (env k) k scan_long.u17.c (frameL [(0, .int .i64 x0), (1, .str x1), (5, .int .i64 x2)]) K =
      scan_long.u17.f k x0 x1 x2 (fun y0 => K .normal (frameL [(5, .int .i64 y0)])) :=
  (scan_long.u2.ok k x0 x1 x2 scan_long.u16.c K).trans
    (congrArg (fun z => scan_long.u2.f k x0 x1 x2 z) (funext fun y0 => (funext fun y1 => (funext fun y2 => scan_long.u16.ok k y0 y1 y2 K))))
theorem scan_long.u18.ok (k : Nat) (x0 : Int) (K : Ex → Frame → M α) :
    evC T (env k) k scan_long.u18.c (frameL [(5, .int .i64 x0)]) K =
      scan_long.u18.f k x0 (fun y0 => K .ret (frameL [(4, .int .i64 y0)])) := by kernel_rfl
theorem scan_long.u19.ok (k : Nat) (x0 : Int) (x1 : List UInt8) (x2 : Int) (K : Ex → Frame → M α) :
    evC T (env k) k scan_long.u19.c (frameL [(0, .int .i64 x0), (1, .str x1), (5, .int .i64 x2)]) K =
      scan_long.u19.f k x0 x1 x2 (fun y0 => K .ret (frameL [(4, .int .i64 y0)])) :=
  by
    have h := scan_long.u17.ok k x0 x1 x2 (seqK (fun ρ => evC T (env k) k scan_long.u18.c ρ K) K)
    simp only [seqK_normal, seqK_exit, seqK_ret, seqK_pan, scan_long.u18.ok] at h
    exact evC_seq_of h
theorem scan_long.u20.ok (k : Nat) (x0 : Int) (x1 : List UInt8) (K : Ex → Frame → M α) :
    evC T (env k) k scan_long.u20.c (frameL [(0, .int .i64 x0), (1, .str x1)]) K =
      scan_long.u20.f k x0 x1 (fun y0 => K .ret (frameL [(4, .int .i64 y0)])) :=
  (scan_long.u1.ok k x0 x1 scan_long.u19.c K).trans
    (congrArg (fun z => scan_long.u1.f k x0 x1 z) (funext fun y0 => (funext fun y1 => (funext fun y2 => scan_long.u19.ok k y0 y1 y2 K))))
theorem scan_long.ok (k : Nat) (x0 : Int) (x1 : List UInt8) (κ : Res → M α) :
    evF T (env k) k scan_long.c scan_long.res [.int .i64 x0, .str x1] κ = scan_long.f (k + 1) x0 x1 (fun o0 => κ (.ret (.int .i64 o0))) :=
  (scan_long.u20.ok k x0 x1 (retK T scan_long.res κ)).trans (by kernel_rfl)
theorem scan_long.code : scan_long.c.code = bodyOf Try.f66 := by kernel_rfl
noncomputable def scan_value.c : IC := scan_value.u11.c
noncomputable def scan_value.res : List ResultVar := [(.tmp 2), (.tmp 3)]
theorem scan_value.u1.ok (k : Nat) (x0 : List UInt8) (R : IC) (K : Ex → Frame → M α) :
    evC T (env k) k (scan_value.u1.c R) (frameL [(0, .str x0)]) K =
      scan_value.u1.f k x0 (fun y0 => evC T (env k) k R (frameL [(0, .str y0)]) K) (fun y0 y1 => K .ret (frameL [(2, .int .i64 y0), (3, .bool y1)])) := by kernel_rfl
theorem scan_value.u2.ok (k : Nat) (x0 : List UInt8) (R : IC) (K : Ex → Frame → M α) :
    evC T (env k) k (scan_value.u2.c R) (frameL [(0, .str x0)]) K =
      scan_value.u2.f k x0 (fun y0 y1 => evC T (env k) k R (frameL [(0, .str y0), (4, .int .i64 y1)]) K) := by kernel_rfl
theorem scan_value.u3.ok (k : Nat) (x0 : List UInt8) (x1 : Int) (R : IC) (K : Ex → Frame → M α) :
    evC T (env k) k (scan_value.u3.c R) (frameL [(0, .str x0), (4, .int .i64 x1)]) K =
      scan_value.u3.f k x0 x1 (fun y0 y1 y2 y3 => evC T (env k) k R (frameL [(0, .str y0), (4, .int .i64 y1), (20, .int .i64 y2), (21, .int .i64 y3)]) K) := by kernel_rfl
theorem scan_value.u4.ok (k : Nat) (x0 : List UInt8) (x1 : Int) (x2 : Int) (x3 : Int) (K : Ex → Frame → M α) :
    evC T (env k) k scan_value.u4.c (frameL [(0, .str x0), (4, .int .i64 x1), (20, .int .i64 x2), (21, .int .i64 x3)]) K =
      scan_value.u4.f k x0 x1 x2 x3 (fun y0 y1 y2 y3 => K .normal (frameL [(0, .str y0), (4, .int .i64 y1), (20, .int .i64 y2), (21, .int .i64 y3)])) (fun y0 => K (.exit 0) (frameL [(4, .int .i64 y0)])) := by kernel_rfl
theorem scan_value.u5.ls (k : Nat) (kx0 : Int → M α) (j : Nat) (x0 : List UInt8) (x1 : Int) (x2 : Int) (x3 : Int) : scan_value.u5.l k kx0 (j + 1) x0 x1 x2 x3 =
  scan_value.u4.f k x0 x1 x2 x3 (fun y0 y1 y2 y3 => scan_value.u5.l k kx0 j y0 y1 y2 y3) kx0 := rfl
theorem scan_value.u5.okl (k : Nat) (K : Ex → Frame → M α) : ∀ (j : Nat) (x0 : List UInt8) (x1 : Int) (x2 : Int) (x3 : Int),
    evLoop (evC T (env k) k scan_value.u4.c) [0, 4, 20, 21] j (frameL [(0, .str x0), (4, .int .i64 x1), (20, .int .i64 x2), (21, .int .i64 x3)]) K = scan_value.u5.l k (fun y0 => K (.exit 0) (frameL [(4, .int .i64 y0)])) j x0 x1 x2 x3
  | 0, _, _, _, _ => rfl
  | j + 1, x0, x1, x2, x3 => by
      have h := scan_value.u4.ok k x0 x1 x2 x3 (seqK (fun ρ => evLoop (evC T (env k) k scan_value.u4.c) [0, 4, 20, 21] j ρ K) K)
      simp only [seqK_exit, seqK_ret, seqK_pan, seqK_normal, scan_value.u5.okl k K j] at h
      exact (evLoop_step (by kernel_rfl) h).trans (scan_value.u5.ls k (fun y0 => K (.exit 0) (frameL [(4, .int .i64 y0)])) j x0 x1 x2 x3).symm
theorem scan_value.u5.ok (k : Nat) (x0 : List UInt8) (x1 : Int) (x2 : Int) (x3 : Int) (K : Ex → Frame → M α) :
    evC T (env k) k scan_value.u5.c (frameL [(0, .str x0), (4, .int .i64 x1), (20, .int .i64 x2), (21, .int .i64 x3)]) K =
      scan_value.u5.f k x0 x1 x2 x3 (fun y0 => K (.exit 0) (frameL [(4, .int .i64 y0)])) :=
  evC_loop.trans <| (evLoop_keep (body := evC T (env k) k scan_value.u4.c) (keep := [0, 4, 20, 21]) (ρ := (frameL [(0, .str x0), (4, .int .i64 x1), (20, .int .i64 x2), (21, .int .i64 x3)])) (ρ' := (frameL [(0, .str x0), (4, .int .i64 x1), (20, .int .i64 x2), (21, .int .i64 x3)])) (by kernel_rfl) k K).trans (scan_value.u5.okl k K k x0 x1 x2 x3)
theorem scan_value.u6.ok (k : Nat) (x0 : List UInt8) (x1 : Int) (x2 : Int) (x3 : Int) (K : Ex → Frame → M α) :
    evC T (env k) k scan_value.u6.c (frameL [(0, .str x0), (4, .int .i64 x1), (20, .int .i64 x2), (21, .int .i64 x3)]) K =
      scan_value.u6.f k x0 x1 x2 x3 (fun y0 => K .normal (frameL [(4, .int .i64 y0)])) :=
  (evC_block.trans (scan_value.u5.ok k x0 x1 x2 x3 (blockK 0 K))).trans (by kernel_rfl)
theorem scan_value.u7.ok (k : Nat) (x0 : List UInt8) (x1 : Int) (K : Ex → Frame → M α) :
    evC T (env k) k scan_value.u7.c (frameL [(0, .str x0), (4, .int .i64 x1)]) K =
      scan_value.u7.f k x0 x1 (fun y0 => K .normal (frameL [(4, .int .i64 y0)])) :=
  (scan_value.u3.ok k x0 x1 scan_value.u6.c K).trans
    (congrArg (fun z => scan_value.u3.f k x0 x1 z) (funext fun y0 => (funext fun y1 => (funext fun y2 => (funext fun y3 => scan_value.u6.ok k y0 y1 y2 y3 K)))))
theorem scan_value.u8.ok (k : Nat) (x0 : Int) (K : Ex → Frame → M α) :
    evC T (env k) k scan_value.u8.c (frameL [(4, .int .i64 x0)]) K =
      scan_value.u8.f k x0 (fun y0 y1 => K .ret (frameL [(2, .int .i64 y0), (3, .bool y1)])) := by kernel_rfl
theorem scan_value.u9.ok (k : Nat) (x0 : List UInt8) (x1 : Int) (K : Ex → Frame → M α) :
    evC T (env k) k scan_value.u9.c (frameL [(0, .str x0), (4, .int .i64 x1)]) K =
      scan_value.u9.f k x0 x1 (fun y0 y1 => K .ret (frameL [(2, .int .i64 y0), (3, .bool y1)])) :=
  by
    have h := scan_value.u7.ok k x0 x1 (seqK (fun ρ => evC T (env k) k scan_value.u8.c ρ K) K)
    simp only [seqK_normal, seqK_exit, seqK_ret, seqK_pan, scan_value.u8.ok] at h
    exact evC_seq_of h
theorem scan_value.u10.ok (k : Nat) (x0 : List UInt8) (K : Ex → Frame → M α) :
    evC T (env k) k scan_value.u10.c (frameL [(0, .str x0)]) K =
      scan_value.u10.f k x0 (fun y0 y1 => K .ret (frameL [(2, .int .i64 y0), (3, .bool y1)])) :=
  (scan_value.u2.ok k x0 scan_value.u9.c K).trans
    (congrArg (fun z => scan_value.u2.f k x0 z) (funext fun y0 => (funext fun y1 => scan_value.u9.ok k y0 y1 K)))
theorem scan_value.u11.ok (k : Nat) (x0 : List UInt8) (K : Ex → Frame → M α) :
    evC T (env k) k scan_value.u11.c (frameL [(0, .str x0)]) K =
      scan_value.u11.f k x0 (fun y0 y1 => K .ret (frameL [(2, .int .i64 y0), (3, .bool y1)])) :=
  (scan_value.u1.ok k x0 scan_value.u10.c K).trans
    (congrArg (fun z => scan_value.u1.f k x0 z (fun y0 y1 => K .ret (frameL [(2, .int .i64 y0), (3, .bool y1)]))) (funext fun y0 => scan_value.u10.ok k y0 K))
theorem scan_value.ok (k : Nat) (x0 : List UInt8) (κ : Res → M α) :
    evF T (env k) k scan_value.c scan_value.res [.str x0] κ = scan_value.f (k + 1) x0 (fun o0 o1 => κ (.ret (.tuple [.int .i64 o0, .bool o1]))) :=
  (scan_value.u11.ok k x0 (retK T scan_value.res κ)).trans (by kernel_rfl)
theorem scan_value.code : scan_value.c.code = bodyOf Try.f67 := by kernel_rfl
noncomputable def scan_token.c : IC := scan_token.u1.c
noncomputable def scan_token.res : List ResultVar := [(.cell 4 66), (.tmp 5)]
theorem scan_token.u1.ok (k : Nat) (x0 : List UInt8) (x1 : Int) (K : Ex → Frame → M α) :
    evC T (env k) k scan_token.u1.c (frameL [(0, .str x0), (1, .int .i64 x1)]) K =
      scan_token.u1.f k x0 x1 (fun y0 y1 => K .ret (frameL [(4, .ptr (some y0)), (5, .int .i64 y1)])) := by kernel_rfl
theorem scan_token.ok (k : Nat) (x0 : List UInt8) (x1 : Int) (κ : Res → M α) :
    evF T (env k) k scan_token.c scan_token.res [.str x0, .int .i64 x1] κ = scan_token.f (k + 1) x0 x1 (fun o0 o1 o2 o3 o4 => κ (.ret (.tuple [.agg [.int .i64 o0, .int .i64 o1, .str o2, .int .i64 o3], .int .i64 o4]))) :=
  (scan_token.u1.ok k x0 x1 (retK T scan_token.res κ)).trans (by kernel_rfl)
theorem scan_token.code : scan_token.c.code = bodyOf Try.f51 := by kernel_rfl
noncomputable def scan_All.c : IC := scan_All.u9.c
noncomputable def scan_All.res : List ResultVar := [(.tmp 2), (.tmp 3)]
theorem scan_All.u1.ok (k : Nat) (x0 : List UInt8) (R : IC) (K : Ex → Frame → M α) :
    evC T (env k) k (scan_All.u1.c R) (frameL [(0, .str x0)]) K =
      scan_All.u1.f k x0 (fun y0 y1 => evC T (env k) k R (frameL [(0, .str y0), (4, .slice y1)]) K) (fun y0 y1 => K .ret (frameL [(2, .slice y0), (3, .iface 62 (.ptr (some y1)))])) := by kernel_rfl
theorem scan_All.u2.ok (k : Nat) (x0 : List UInt8) (x1 : Sl) (R : IC) (K : Ex → Frame → M α) :
    evC T (env k) k (scan_All.u2.c R) (frameL [(0, .str x0), (4, .slice x1)]) K =
      scan_All.u2.f k x0 x1 (fun y0 y1 y2 => evC T (env k) k R (frameL [(0, .str y0), (4, .slice y1), (5, .int .i64 y2)]) K) := by kernel_rfl
theorem scan_All.u3.ok (k : Nat) (x0 : List UInt8) (x1 : Sl) (x2 : Int) (K : Ex → Frame → M α) :
    evC T (env k) k scan_All.u3.c (frameL [(0, .str x0), (4, .slice x1), (5, .int .i64 x2)]) K =
      scan_All.u3.f k x0 x1 x2 (fun y0 y1 y2 => K .normal (frameL [(0, .str y0), (4, .slice y1), (5, .int .i64 y2)])) (fun y0 y1 => K .ret (frameL [(2, .slice y0), (3, .iface 62 (.ptr (some y1)))])) (fun y0 y1 => K (.exit 0) (frameL [(0, .str y0), (4, .slice y1)])) := by kernel_rfl
theorem scan_All.u4.ls (k : Nat) (kr : Sl → Ad → M α) (kx0 : List UInt8 → Sl → M α) (j : Nat) (x0 : List UInt8) (x1 : Sl) (x2 : Int) : scan_All.u4.l k kr kx0 (j + 1) x0 x1 x2 =
  scan_All.u3.f k x0 x1 x2 (fun y0 y1 y2 => scan_All.u4.l k kr kx0 j y0 y1 y2) kr kx0 := rfl
theorem scan_All.u4.okl (k : Nat) (K : Ex → Frame → M α) : ∀ (j : Nat) (x0 : List UInt8) (x1 : Sl) (x2 : Int),
    evLoop (evC T (env k) k scan_All.u3.c) [0, 4, 5] j (frameL [(0, .str x0), (4, .slice x1), (5, .int .i64 x2)]) K = scan_All.u4.l k (fun y0 y1 => K .ret (frameL [(2, .slice y0), (3, .iface 62 (.ptr (some y1)))])) (fun y0 y1 => K (.exit 0) (frameL [(0, .str y0), (4, .slice y1)])) j x0 x1 x2
  | 0, _, _, _ => rfl
  | j + 1, x0, x1, x2 => by
      have h := scan_All.u3.ok k x0 x1 x2 (seqK (fun ρ => evLoop (evC T (env k) k scan_All.u3.c) [0, 4, 5] j ρ K) K)
      simp only [seqK_exit, seqK_ret, seqK_pan, seqK_normal, scan_All.u4.okl k K j] at h
      exact (evLoop_step (by kernel_rfl) h).trans (scan_All.u4.ls k (fun y0 y1 => K .ret (frameL [(2, .slice y0), (3, .iface 62 (.ptr (some y1)))])) (fun y0 y1 => K (.exit 0) (frameL [(0, .str y0), (4, .slice y1)])) j x0 x1 x2).symm
theorem scan_All.u4.ok (k : Nat) (x0 : List UInt8) (x1 : Sl) (x2 : Int) (K : Ex → Frame → M α) :
    evC T (env k) k scan_All.u4.c (frameL [(0, .str x0), (4, .slice x1), (5, .int .i64 x2)]) K =
      scan_All.u4.f k x0 x1 x2 (fun y0 y1 => K .ret (frameL [(2, .slice y0), (3, .iface 62 (.ptr (some y1)))])) (fun y0 y1 => K (.exit 0) (frameL [(0, .str y0), (4, .slice y1)])) :=
  evC_loop.trans <| (evLoop_keep (body := evC T (env k) k scan_All.u3.c) (keep := [0, 4, 5]) (ρ := (frameL [(0, .str x0), (4, .slice x1), (5, .int .i64 x2)])) (ρ' := (frameL [(0, .str x0), (4, .slice x1), (5, .int .i64 x2)])) (by kernel_rfl) k K).trans (scan_All.u4.okl k K k x0 x1 x2)
theorem scan_All.u5.ok (k : Nat) (x0 : List UInt8) (x1 : Sl) (x2 : Int) (K : Ex → Frame → M α) :
    evC T (env k) k scan_All.u5.c (frameL [(0, .str x0), (4, .slice x1), (5, .int .i64 x2)]) K =
      scan_All.u5.f k x0 x1 x2 (fun y0 y1 => K .normal (frameL [(0, .str y0), (4, .slice y1)])) (fun y0 y1 => K .ret (frameL [(2, .slice y0), (3, .iface 62 (.ptr (some y1)))])) :=
  (evC_block.trans (scan_All.u4.ok k x0 x1 x2 (blockK 0 K))).trans (by kernel_rfl)
theorem scan_All.u6.ok (k : Nat) (x0 : List UInt8) (x1 : Sl) (K : Ex → Frame → M α) :
    evC T (env k) k scan_All.u6.c (frameL [(0, .str x0), (4, .slice x1)]) K =
      scan_All.u6.f k x0 x1 (fun y0 y1 => K .normal (frameL [(0, .str y0), (4, .slice y1)])) (fun y0 y1 => K .ret (frameL [(2, .slice y0), (3, .iface 62 (.ptr (some y1)))])) :=
  (scan_All.u2.ok k x0 x1 scan_All.u5.c K).trans
    (congrArg (fun z => scan_All.u2.f k x0 x1 z) (funext fun y0 => (funext fun y1 => (funext fun y2 => scan_All.u5.ok k y0 y1 y2 K))))
theorem scan_All.u7.ok (k : Nat) (x0 : List UInt8) (x1 : Sl) (K : Ex → Frame → M α) :
    evC T (env k) k scan_All.u7.c (frameL [(0, .str x0), (4, .slice x1)]) K =
      scan_All.u7.f k x0 x1 (fun y0 => K .ret (frameL [(2, .slice y0), (3, .nilIface)])) := by kernel_rfl
theorem scan_All.u8.ok (k : Nat) (x0 : List UInt8) (x1 : Sl) (K : Ex → Frame → M α) :
    evC T (env k) k scan_All.u8.c (frameL [(0, .str x0), (4, .slice x1)]) K =
      scan_All.u8.f k x0 x1 (fun y0 y1 => K .ret (frameL [(2, .slice y0), (3, y1)])) :=
  by
    have h := scan_All.u6.ok k x0 x1 (seqK (fun ρ => evC T (env k) k scan_All.u7.c ρ K) K)
    simp only [seqK_normal, seqK_exit, seqK_ret, seqK_pan, scan_All.u7.ok] at h
    exact evC_seq_of h
theorem scan_All.u9.ok (k : Nat) (x0 : List UInt8) (K : Ex → Frame → M α) :
    evC T (env k) k scan_All.u9.c (frameL [(0, .str x0)]) K =
      scan_All.u9.f k x0 (fun y0 y1 => K .ret (frameL [(2, .slice y0), (3, y1)])) :=
  (scan_All.u1.ok k x0 scan_All.u8.c K).trans
    (congrArg (fun z => scan_All.u1.f k x0 z (fun y0 y1 => K .ret (frameL [(2, .slice y0), (3, .iface 62 (.ptr (some y1)))]))) (funext fun y0 => (funext fun y1 => scan_All.u8.ok k y0 y1 K)))
theorem scan_All.ok (k : Nat) (x0 : List UInt8) (κ : Res → M α) :
    evF T (env k) k scan_All.c scan_All.res [.str x0] κ = scan_All.f (k + 1) x0 (fun o0 o1 => κ (.ret (.tuple [.slice o0, o1]))) :=
  (scan_All.u9.ok k x0 (retK T scan_All.res κ)).trans (by kernel_rfl)
theorem scan_All.code : scan_All.c.code = bodyOf Try.f34 := by kernel_rfl
noncomputable def syntax_Parse_c2.c : IC := syntax_Parse_c2.u1.c
noncomputable def syntax_Parse_c2.res : List ResultVar := [(.tmp 2)]
theorem syntax_Parse_c2.u1.ok (k : Nat) (x0 : Int) (x1 : Int) (x2 : List UInt8) (x3 : Int) (K : Ex → Frame → M α) :
    evC T (env k) k syntax_Parse_c2.u1.c (frameL [(0, .agg [.int .i64 x0, .int .i64 x1, .str x2, .int .i64 x3])]) K =
      syntax_Parse_c2.u1.f k x0 x1 x2 x3 (fun y0 => K .ret (frameL [(2, .bool y0)])) := by kernel_rfl
theorem syntax_Parse_c2.ok (k : Nat) (x0 : Int) (x1 : Int) (x2 : List UInt8) (x3 : Int) (κ : Res → M α) :
    evF T (env k) k syntax_Parse_c2.c syntax_Parse_c2.res [.agg [.int .i64 x0, .int .i64 x1, .str x2, .int .i64 x3]] κ = syntax_Parse_c2.f (k + 1) x0 x1 x2 x3 (fun o0 => κ (.ret (.bool o0))) :=
  (syntax_Parse_c2.u1.ok k x0 x1 x2 x3 (retK T syntax_Parse_c2.res κ)).trans (by kernel_rfl)
theorem syntax_Parse_c2.code : syntax_Parse_c2.c.code = bodyOf Try.f37 := by kernel_rfl
noncomputable def slices_IndexFunc_Token_Token_37.c : IC := slices_IndexFunc_Token_Token_37.u9.c
noncomputable def slices_IndexFunc_Token_Token_37.res : List ResultVar := [(.tmp 4)]
theorem slices_IndexFunc_Token_Token_37.u1.ok (k : Nat) (x0 : Sl) (R : IC) (K : Ex → Frame → M α) :
    evC T (env k) k (slices_IndexFunc_Token_Token_37.u1.c R) (frameL [(0, .slice x0), (1, .func 37 [] [])]) K =
      slices_IndexFunc_Token_Token_37.u1.f k x0 (fun y0 => evC T (env k) k R (frameL [(0, .slice y0), (1, .func 37 [] [])]) K) := by kernel_rfl
theorem slices_IndexFunc_Token_Token_37.u2.ok (k : Nat) (x0 : Sl) (R : IC) (K : Ex → Frame → M α) :
    evC T (env k) k (slices_IndexFunc_Token_Token_37.u2.c R) (frameL [(0, .slice x0), (1, .func 37 [] [])]) K =
      slices_IndexFunc_Token_Token_37.u2.f k x0 (fun y0 y1 y2 => evC T (env k) k R (frameL [(0, .slice y0), (1, .func 37 [] []), (7, .int .i64 y1), (8, .int .i64 y2)]) K) := by kernel_rfl
theorem slices_IndexFunc_Token_Token_37.u3.ok (k : Nat) (x0 : Sl) (x1 : Int) (x2 : Int) (K : Ex → Frame → M α) :
    evC T (env k) k slices_IndexFunc_Token_Token_37.u3.c (frameL [(0, .slice x0), (1, .func 37 [] []), (7, .int .i64 x1), (8, .int .i64 x2)]) K =
      slices_IndexFunc_Token_Token_37.u3.f k x0 x1 x2 (fun y0 y1 y2 => K .normal (frameL [(0, .slice y0), (1, .func 37 [] []), (7, .int .i64 y1), (8, .int .i64 y2)])) (fun y0 => K .ret (frameL [(4, .int .i64 y0)])) (K (.exit 0) (frameL [])) := by kernel_rfl
theorem slices_IndexFunc_Token_Token_37.u4.ls (k : Nat) (kr : Int → M α) (kx0 : M α) (j : Nat) (x0 : Sl) (x1 : Int) (x2 : Int) : slices_IndexFunc_Token_Token_37.u4.l k kr kx0 (j + 1) x0 x1 x2 =
  slices_IndexFunc_Token_Token_37.u3.f k x0 x1 x2 (fun y0 y1 y2 => slices_IndexFunc_Token_Token_37.u4.l k kr kx0 j y0 y1 y2) kr kx0 := rfl
theorem slices_IndexFunc_Token_Token_37.u4.okl (k : Nat) (K : Ex → Frame → M α) : ∀ (j : Nat) (x0 : Sl) (x1 : Int) (x2 : Int),
    evLoop (evC T (env k) k slices_IndexFunc_Token_Token_37.u3.c) [0, 1, 7, 8] j (frameL [(0, .slice x0), (1, .func 37 [] []), (7, .int .i64 x1), (8, .int .i64 x2)]) K = slices_IndexFunc_Token_Token_37.u4.l k (fun y0 => K .ret (frameL [(4, .int .i64 y0)])) (K (.exit 0) (frameL [])) j x0 x1 x2
  | 0, _, _, _ => rfl
  | j + 1, x0, x1, x2 => by
      have h := slices_IndexFunc_Token_Token_37.u3.ok k x0 x1 x2 (seqK (fun ρ => evLoop (evC T (env k) k slices_IndexFunc_Token_Token_37.u3.c) [0, 1, 7, 8] j ρ K) K)
      simp only [seqK_exit, seqK_ret, seqK_pan, seqK_normal, slices_IndexFunc_Token_Token_37.u4.okl k K j] at h
      exact (evLoop_step (by kernel_rfl) h).trans (slices_IndexFunc_Token_Token_37.u4.ls k (fun y0 => K .ret (frameL [(4, .int .i64 y0)])) (K (.exit 0) (frameL [])) j x0 x1 x2).symm
theorem slices_IndexFunc_Token_Token_37.u4.ok (k : Nat) (x0 : Sl) (x1 : Int) (x2 : Int) (K : Ex → Frame → M α) :
    evC T (env k) k slices_IndexFunc_Token_Token_37.u4.c (frameL [(0, .slice x0), (1, .func 37 [] []), (7, .int .i64 x1), (8, .int .i64 x2)]) K =
      slices_IndexFunc_Token_Token_37.u4.f k x0 x1 x2 (fun y0 => K .ret (frameL [(4, .int .i64 y0)])) (K (.exit 0) (frameL [])) :=
  evC_loop.trans <| (evLoop_keep (body := evC T (env k) k slices_IndexFunc_Token_Token_37.u3.c) (keep := [0, 1, 7, 8]) (ρ := (frameL [(0, .slice x0), (1, .func 37 [] []), (7, .int .i64 x1), (8, .int .i64 x2)])) (ρ' := (frameL [(0, .slice x0), (1, .func 37 [] []), (7, .int .i64 x1), (8, .int .i64 x2)])) (by kernel_rfl) k K).trans (slices_IndexFunc_Token_Token_37.u4.okl k K k x0 x1 x2)
theorem slices_IndexFunc_Token_Token_37.u5.ok (k : Nat) (x0 : Sl) (x1 : Int) (x2 : Int) (K : Ex → Frame → M α) :
    evC T (env k) k slices_IndexFunc_Token_Token_37.u5.c (frameL [(0, .slice x0), (1, .func 37 [] []), (7, .int .i64 x1), (8, .int .i64 x2)]) K =
      slices_IndexFunc_Token_Token_37.u5.f k x0 x1 x2 (K .normal (frameL [])) (fun y0 => K .ret (frameL [(4, .int .i64 y0)])) :=
  (evC_block.trans (slices_IndexFunc_Token_Token_37.u4.ok k x0 x1 x2 (blockK 0 K))).trans (by kernel_rfl)
theorem slices_IndexFunc_Token_Token_37.u6.ok (k : Nat) (x0 : Sl) (K : Ex → Frame → M α) :
    evC T (env k) k slices_IndexFunc_Token_Token_37.u6.c (frameL [(0, .slice x0), (1, .func 37 [] [])]) K =
      slices_IndexFunc_Token_Token_37.u6.f k x0 (K .normal (frameL [])) (fun y0 => K .ret (frameL [(4, .int .i64 y0)])) :=
  (slices_IndexFunc_Token_Token_37.u2.ok k x0 slices_IndexFunc_Token_Token_37.u5.c K).trans
    (congrArg (fun z => slices_IndexFunc_Token_Token_37.u2.f k x0 z) (funext fun y0 => (funext fun y1 => (funext fun y2 => slices_IndexFunc_Token_Token_37.u5.ok k y0 y1 y2 K))))
theorem slices_IndexFunc_Token_Token_37.u7.ok (k : Nat) (K : Ex → Frame → M α) :
    evC T (env k) k slices_IndexFunc_Token_Token_37.u7.c (frameL []) K =
      slices_IndexFunc_Token_Token_37.u7.f k (fun y0 => K .ret (frameL [(4, .int .i64 y0)])) := by kernel_rfl
theorem slices_IndexFunc_Token_Token_37.u8.ok (k : Nat) (x0 : Sl) (K : Ex → Frame → M α) :
    evC T (env k) k slices_IndexFunc_Token_Token_37.u8.c (frameL [(0, .slice x0), (1, .func 37 [] [])]) K =
      slices_IndexFunc_Token_Token_37.u8.f k x0 (fun y0 => K .ret (frameL [(4, .int .i64 y0)])) :=
  by
    have h := slices_IndexFunc_Token_Token_37.u6.ok k x0 (seqK (fun ρ => evC T (env k) k slices_IndexFunc_Token_Token_37.u7.c ρ K) K)
    simp only [seqK_normal, seqK_exit, seqK_ret, seqK_pan, slices_IndexFunc_Token_Token_37.u7.ok] at h
    exact evC_seq_of h
theorem slices_IndexFunc_Token_Token_37.u9.ok (k : Nat) (x0 : Sl) (K : Ex → Frame → M α) :
    evC T (env k) k slices_IndexFunc_Token_Token_37.u9.c (frameL [(0, .slice x0), (1, .func 37 [] [])]) K =
      slices_IndexFunc_Token_Token_37.u9.f k x0 (fun y0 => K .ret (frameL [(4, .int .i64 y0)])) :=
  (slices_IndexFunc_Token_Token_37.u1.ok k x0 slices_IndexFunc_Token_Token_37.u8.c K).trans
    (congrArg (fun z => slices_IndexFunc_Token_Token_37.u1.f k x0 z) (funext fun y0 => slices_IndexFunc_Token_Token_37.u8.ok k y0 K))
theorem slices_IndexFunc_Token_Token_37.ok (k : Nat) (x0 : Sl) (κ : Res → M α) :
    evF T (env k) k slices_IndexFunc_Token_Token_37.c slices_IndexFunc_Token_Token_37.res [.slice x0, .func 37 [] []] κ = slices_IndexFunc_Token_Token_37.f (k + 1) x0 (fun o0 => κ (.ret (.int .i64 o0))) :=
  (slices_IndexFunc_Token_Token_37.u9.ok k x0 (retK T slices_IndexFunc_Token_Token_37.res κ)).trans (by kernel_rfl)
theorem slices_IndexFunc_Token_Token_37.code : slices_IndexFunc_Token_Token_37.c.code = bodyOf Try.f52 := by kernel_rfl
noncomputable def slices_DeleteFunc_Token_Token_37.c : IC := slices_DeleteFunc_Token_Token_37.u9.c
noncomputable def slices_DeleteFunc_Token_Token_37.res : List ResultVar := [(.tmp 4)]
theorem slices_DeleteFunc_Token_Token_37.u1.ok (k : Nat) (x0 : Sl) (R : IC) (K : Ex → Frame → M α) :
    evC T (env k) k (slices_DeleteFunc_Token_Token_37.u1.c R) (frameL [(0, .slice x0), (1, .func 37 [] [])]) K =
      slices_DeleteFunc_Token_Token_37.u1.f k x0 (fun y0 y1 => evC T (env k) k R (frameL [(0, .slice y0), (1, .func 37 [] []), (5, .int .i64 y1)]) K) (fun y0 => K .ret (frameL [(4, .slice y0)])) := by kernel_rfl
theorem slices_DeleteFunc_Token_Token_37.u2.ok (k : Nat) (x0 : Sl) (x1 : Int) (R : IC) (K : Ex → Frame → M α) :
    evC T (env k) k (slices_DeleteFunc_Token_Token_37.u2.c R) (frameL [(0, .slice x0), (1, .func 37 [] []), (5, .int .i64 x1)]) K =
      slices_DeleteFunc_Token_Token_37.u2.f k x0 x1 (fun y0 y1 y2 => evC T (env k) k R (frameL [(0, .slice y0), (1, .func 37 [] []), (5, .int .i64 y1), (6, .int .i64 y2)]) K) := by kernel_rfl
theorem slices_DeleteFunc_Token_Token_37.u3.ok (k : Nat) (x0 : Sl) (x1 : Int) (x2 : Int) (K : Ex → Frame → M α) :
    evC T (env k) k slices_DeleteFunc_Token_Token_37.u3.c (frameL [(0, .slice x0), (1, .func 37 [] []), (5, .int .i64 x1), (6, .int .i64 x2)]) K =
      slices_DeleteFunc_Token_Token_37.u3.f k x0 x1 x2 (fun y0 y1 y2 => K .normal (frameL [(0, .slice y0), (1, .func 37 [] []), (5, .int .i64 y1), (6, .int .i64 y2)])) (fun y0 y1 => K (.exit 0) (frameL [(0, .slice y0), (5, .int .i64 y1)])) := by kernel_rfl
theorem slices_DeleteFunc_Token_Token_37.u4.ls (k : Nat) (kx0 : Sl → Int → M α) (j : Nat) (x0 : Sl) (x1 : Int) (x2 : Int) : slices_DeleteFunc_Token_Token_37.u4.l k kx0 (j + 1) x0 x1 x2 =
  slices_DeleteFunc_Token_Token_37.u3.f k x0 x1 x2 (fun y0 y1 y2 => slices_DeleteFunc_Token_Token_37.u4.l k kx0 j y0 y1 y2) kx0 := rfl
theorem slices_DeleteFunc_Token_Token_37.u4.okl (k : Nat) (K : Ex → Frame → M α) : ∀ (j : Nat) (x0 : Sl) (x1 : Int) (x2 : Int),
    evLoop (evC T (env k) k slices_DeleteFunc_Token_Token_37.u3.c) [0, 1, 5, 6] j (frameL [(0, .slice x0), (1, .func 37 [] []), (5, .int .i64 x1), (6, .int .i64 x2)]) K = slices_DeleteFunc_Token_Token_37.u4.l k (fun y0 y1 => K (.exit 0) (frameL [(0, .slice y0), (5, .int .i64 y1)])) j x0 x1 x2
  | 0, _, _, _ => rfl
  | j + 1, x0, x1, x2 => by
      have h := slices_DeleteFunc_Token_Token_37.u3.ok k x0 x1 x2 (seqK (fun ρ => evLoop (evC T (env k) k slices_DeleteFunc_Token_Token_37.u3.c) [0, 1, 5, 6] j ρ K) K)
      simp only [seqK_exit, seqK_ret, seqK_pan, seqK_normal, slices_DeleteFunc_Token_Token_37.u4.okl k K j] at h
      exact (evLoop_step (by kernel_rfl) h).trans (slices_DeleteFunc_Token_Token_37.u4.ls k (fun y0 y1 => K (.exit 0) (frameL [(0, .slice y0), (5, .int .i64 y1)])) j x0 x1 x2).symm
theorem slices_DeleteFunc_Token_Token_37.u4.ok (k : Nat) (x0 : Sl) (x1 : Int) (x2 : Int) (K : Ex → Frame → M α) :
    evC T (env k) k slices_DeleteFunc_Token_Token_37.u4.c (frameL [(0, .slice x0), (1, .func 37 [] []), (5, .int .i64 x1), (6, .int .i64 x2)]) K =
      slices_DeleteFunc_Token_Token_37.u4.f k x0 x1 x2 (fun y0 y1 => K (.exit 0) (frameL [(0, .slice y0), (5, .int .i64 y1)])) :=
  evC_loop.trans <| (evLoop_keep (body := evC T (env k) k slices_DeleteFunc_Token_Token_37.u3.c) (keep := [0, 1, 5, 6]) (ρ := (frameL [(0, .slice x0), (1, .func 37 [] []), (5, .int .i64 x1), (6, .int .i64 x2)])) (ρ' := (frameL [(0, .slice x0), (1, .func 37 [] []), (5, .int .i64 x1), (6, .int .i64 x2)])) (by kernel_rfl) k K).trans (slices_DeleteFunc_Token_Token_37.u4.okl k K k x0 x1 x2)
theorem slices_DeleteFunc_Token_Token_37.u5.ok (k : Nat) (x0 : Sl) (x1 : Int) (x2 : Int) (K : Ex → Frame → M α) :
    evC T (env k) k slices_DeleteFunc_Token_Token_37.u5.c (frameL [(0, .slice x0), (1, .func 37 [] []), (5, .int .i64 x1), (6, .int .i64 x2)]) K =
      slices_DeleteFunc_Token_Token_37.u5.f k x0 x1 x2 (fun y0 y1 => K .normal (frameL [(0, .slice y0), (5, .int .i64 y1)])) :=
  (evC_block.trans (slices_DeleteFunc_Token_Token_37.u4.ok k x0 x1 x2 (blockK 0 K))).trans (by kernel_rfl)
theorem slices_DeleteFunc_Token_Token_37.u6.ok (k : Nat) (x0 : Sl) (x1 : Int) (K : Ex → Frame → M α) :
    evC T (env k) k slices_DeleteFunc_Token_Token_37.u6.c (frameL [(0, .slice x0), (1, .func 37 [] []), (5, .int .i64 x1)]) K =
      slices_DeleteFunc_Token_Token_37.u6.f k x0 x1 (fun y0 y1 => K .normal (frameL [(0, .slice y0), (5, .int .i64 y1)])) :=
  (slices_DeleteFunc_Token_Token_37.u2.ok k x0 x1 slices_DeleteFunc_Token_Token_37.u5.c K).trans
    (congrArg (fun z => slices_DeleteFunc_Token_Token_37.u2.f k x0 x1 z) (funext fun y0 => (funext fun y1 => (funext fun y2 => slices_DeleteFunc_Token_Token_37.u5.ok k y0 y1 y2 K))))
theorem slices_DeleteFunc_Token_Token_37.u7.ok (k : Nat) (x0 : Sl) (x1 : Int) (K : Ex → Frame → M α) :
    evC T (env k) k slices_DeleteFunc_Token_Token_37.u7.c (frameL [(0, .slice x0), (5, .int .i64 x1)]) K =
      slices_DeleteFunc_Token_Token_37.u7.f k x0 x1 (fun y0 => K .ret (frameL [(4, .slice y0)])) := by kernel_rfl
theorem slices_DeleteFunc_Token_Token_37.u8.ok (k : Nat) (x0 : Sl) (x1 : Int) (K : Ex → Frame → M α) :
    evC T (env k) k slices_DeleteFunc_Token_Token_37.u8.c (frameL [(0, .slice x0), (1, .func 37 [] []), (5, .int .i64 x1)]) K =
      slices_DeleteFunc_Token_Token_37.u8.f k x0 x1 (fun y0 => K .ret (frameL [(4, .slice y0)])) :=
  by
    have h := slices_DeleteFunc_Token_Token_37.u6.ok k x0 x1 (seqK (fun ρ => evC T (env k) k slices_DeleteFunc_Token_Token_37.u7.c ρ K) K)
    simp only [seqK_normal, seqK_exit, seqK_ret, seqK_pan, slices_DeleteFunc_Token_Token_37.u7.ok] at h
    exact evC_seq_of h
theorem slices_DeleteFunc_Token_Token_37.u9.ok (k : Nat) (x0 : Sl) (K : Ex → Frame → M α) :
    evC T (env k) k slices_DeleteFunc_Token_Token_37.u9.c (frameL [(0, .slice x0), (1, .func 37 [] [])]) K =
      slices_DeleteFunc_Token_Token_37.u9.f k x0 (fun y0 => K .ret (frameL [(4, .slice y0)])) :=
  (slices_DeleteFunc_Token_Token_37.u1.ok k x0 slices_DeleteFunc_Token_Token_37.u8.c K).trans
    (congrArg (fun z => slices_DeleteFunc_Token_Token_37.u1.f k x0 z (fun y0 => K .ret (frameL [(4, .slice y0)]))) (funext fun y0 => (funext fun y1 => slices_DeleteFunc_Token_Token_37.u8.ok k y0 y1 K)))
theorem slices_DeleteFunc_Token_Token_37.ok (k : Nat) (x0 : Sl) (κ : Res → M α) :
    evF T (env k) k slices_DeleteFunc_Token_Token_37.c slices_DeleteFunc_Token_Token_37.res [.slice x0, .func 37 [] []] κ = slices_DeleteFunc_Token_Token_37.f (k + 1) x0 (fun o0 => κ (.ret (.slice o0))) :=
  (slices_DeleteFunc_Token_Token_37.u9.ok k x0 (retK T slices_DeleteFunc_Token_Token_37.res κ)).trans (by kernel_rfl)
theorem slices_DeleteFunc_Token_Token_37.code : slices_DeleteFunc_Token_Token_37.c.code = bodyOf Try.f36 := by kernel_rfl
noncomputable def spis.c : IC := spis.u1.c
noncomputable def spis.res : List ResultVar := [(.tmp 4)]
theorem spis.u1.ok (k : Nat) (x0 : Ad) (x1 : List UInt8) (K : Ex → Frame → M α) :
    evC T (env k) k spis.u1.c (frameL [(0, .ptr (some x0)), (1, .str x1)]) K =
      spis.u1.f k x0 x1 (fun y0 => K .ret (frameL [(4, .bool y0)])) := by kernel_rfl
theorem spis.ok (k : Nat) (x0 : Ad) (x1 : List UInt8) (κ : Res → M α) :
    evF T (env k) k spis.c spis.res [.ptr (some x0), .str x1] κ = spis.f (k + 1) x0 x1 (fun o0 => κ (.ret (.bool o0))) :=
  (spis.u1.ok k x0 x1 (retK T spis.res κ)).trans (by kernel_rfl)
theorem spis.code : spis.c.code = bodyOf Try.f68 := by kernel_rfl
noncomputable def spnext.c : IC := spnext.u1.c
noncomputable def spnext.res : List ResultVar := [(.cell 2 66)]
theorem spnext.u1.ok (k : Nat) (x0 : Ad) (K : Ex → Frame → M α) :
    evC T (env k) k spnext.u1.c (frameL [(0, .ptr (some x0))]) K =
      spnext.u1.f k x0 (fun y0 => K .ret (frameL [(2, .ptr (some y0))])) := by kernel_rfl
theorem spnext.ok (k : Nat) (x0 : Ad) (κ : Res → M α) :
    evF T (env k) k spnext.c spnext.res [.ptr (some x0)] κ = spnext.f (k + 1) x0 (fun o0 o1 o2 o3 => κ (.ret (.agg [.int .i64 o0, .int .i64 o1, .str o2, .int .i64 o3]))) :=
  (spnext.u1.ok k x0 (retK T spnext.res κ)).trans (by kernel_rfl)
theorem spnext.code : spnext.c.code = bodyOf Try.f75 := by kernel_rfl
noncomputable def spmakes.c : IC := spmakes.u1.c
noncomputable def spmakes.res : List ResultVar := [(.cell 2 66)]
theorem spmakes.u1.ok (k : Nat) (x0 : Ad) (K : Ex → Frame → M α) :
    evC T (env k) k spmakes.u1.c (frameL [(0, .ptr (some x0))]) K =
      spmakes.u1.f k x0 (fun y0 => K .ret (frameL [(2, .ptr (some y0))])) (fun v => K (.pan v) (frameL [])) := by kernel_rfl
theorem spmakes.ok (k : Nat) (x0 : Ad) (κ : Res → M α) :
    evF T (env k) k spmakes.c spmakes.res [.ptr (some x0)] κ = spmakes.f (k + 1) x0 (fun v => κ (.pan v)) (fun o0 o1 o2 o3 => κ (.ret (.agg [.int .i64 o0, .int .i64 o1, .str o2, .int .i64 o3]))) :=
  (spmakes.u1.ok k x0 (retK T spmakes.res κ)).trans (by kernel_rfl)
theorem spmakes.code : spmakes.c.code = bodyOf Try.f69 := by kernel_rfl
noncomputable def spnode.c : IC := spnode.u1.c
noncomputable def spnode.res : List ResultVar := [(.tmp 4)]
theorem spnode.u1.ok (k : Nat) (x0 : Ad) (x1 : Int) (x2 : Int) (x3 : Int) (x4 : List UInt8) (x5 : Int) (K : Ex → Frame → M α) :
    evC T (env k) k spnode.u1.c (frameL [(0, .ptr (some x0)), (1, .agg [.int .i64 x1, .int .i64 x2, .int .i64 x3, .str x4, .int .i64 x5])]) K =
      spnode.u1.f k x0 x1 x2 x3 x4 x5 (fun y0 => K .ret (frameL [(4, .int .i64 y0)])) := by kernel_rfl
theorem spnode.ok (k : Nat) (x0 : Ad) (x1 : Int) (x2 : Int) (x3 : Int) (x4 : List UInt8) (x5 : Int) (κ : Res → M α) :
    evF T (env k) k spnode.c spnode.res [.ptr (some x0), .agg [.int .i64 x1, .int .i64 x2, .int .i64 x3, .str x4, .int .i64 x5]] κ = spnode.f (k + 1) x0 x1 x2 x3 x4 x5 (fun o0 => κ (.ret (.int .i64 o0))) :=
  (spnode.u1.ok k x0 x1 x2 x3 x4 x5 (retK T spnode.res κ)).trans (by kernel_rfl)
theorem spnode.code : spnode.c.code = bodyOf Try.f70 := by kernel_rfl
noncomputable def spwrong.c : IC := spwrong.u1.c
noncomputable def spwrong.res : List ResultVar := []
theorem spwrong.u1.ok (k : Nat) (x0 : Ad) (K : Ex → Frame → M α) :
    evC T (env k) k spwrong.u1.c (frameL [(0, .ptr (some x0))]) K =
      spwrong.u1.f k x0 (fun v => K (.pan v) (frameL [])) := by kernel_rfl
theorem spwrong.ok (k : Nat) (x0 : Ad) (κ : Res → M α) :
    evF T (env k) k spwrong.c spwrong.res [.ptr (some x0)] κ = spwrong.f (k + 1) x0 (fun v => κ (.pan v)) (κ (.ret (.tuple []))) :=
  (spwrong.u1.ok k x0 (retK T spwrong.res κ)).trans (by kernel_rfl)
theorem spwrong.code : spwrong.c.code = bodyOf Try.f39 := by kernel_rfl
end
end Go.Ab.S4
