import Derived.Test.YtmanohnlcedeaaaAb20
import Derived.Shelf.Strings.Builder1
import Derived.Test.YtmanohnlcedeaaaS7b
set_option linter.unusedVariables false
set_option linter.unusedSimpArgs false
namespace Go.Ab.S7
open Go.Proofs
variable {α:Type} {base:Nat} {w0:World}
def Laid (base:Nat) (w0:World):Prop:=True
theorem qbv.call (hL:Laid base w0) (k:Nat) (hC:∀ j, k = j + 1->zo Try.prog T base w0 (env (α:=α) j)):FnOk Try.prog T base w0 (env (α:=α) k) 74:=by
 intro X ι h w args xs κ out hX0 R hv e
 have e:env_74 k args κ h = some out:=e
 unfold env_74 at e
 match args, hv, e with
 | [a0, a1], hv, e=>
  obtain ⟨s, rfl, e1⟩:=jl e
  obtain ⟨c, rfl, e2⟩:=jd e1
  cases k with
  | zero=>cases e2
  | succ k=>
   have e2:κ (.ret (.int .i64 (indexByte s c))) h = some out:=e2
   obtain ⟨⟨b, hb, hs⟩, hc, hn⟩:(∃ b:ByteArray, xs.toList[0]? = some (.string b) ∧ b.data.toList = s) ∧ xs.toList[1]? = some (.int .u8 c) ∧ xs.toList.length = 2:=by
    match hx:xs.toList, hv with
    | [x, y], hv=>
     obtain ⟨⟨b, h1, h2⟩, h3, _⟩:=hv
     exact ⟨⟨b, by rw [h1]; rfl, h2⟩, by rw [show y = _ from h3]; rfl, rfl⟩
   have hxs:xs = #[.string b, .int .u8 c]:=by
    apply Array.ext'
    match hx:xs.toList with
    | [x, y]=>rw [hx] at hb hc; simp at hb hc; rw [hb, hc]
    | []=>rw [hx] at hn; simp at hn
    | [_]=>rw [hx] at hn; simp at hn
    | _ :: _ :: _ :: _=>rw [hx] at hn; simp at hn
   refine .inl ⟨_, .int .i64 (indexByte s c), h, ι, w, e2, ?_, R, Went.refl X ι h w, rfl⟩
   rw [run_callFunc_extern Try.func74 (by kernel_rfl) (by kernel_rfl) (by kernel_rfl) (by kernel_rfl:Extern.find Try.f74 = some Extern.BytealgIndexByte.indexByte), hxs, Lib.run_indexByteString]
   simp [indexByte, indexB_eq, hs]
theorem zpk (hL:Laid base w0) (k:Nat) (hC:∀ j, k = j + 1->zo Try.prog T base w0 (env (α:=α) j)):zo Try.prog T base w0 (env (α:=α) k):=by
 intro X ι h w g args xs κ out hX0 R hv e
 by_cases h74:g = 74
 ·subst h74; exact qbv.call hL k hC X ι h w args xs κ out hX0 R hv e
 by_cases h64:g = 64
 ·subst h64; exact qbu.call k hC X ι h w args xs κ out hX0 R hv e
 by_cases h50:g = 50
 ·subst h50; exact qbt.call k hC X ι h w args xs κ out hX0 R hv e
 by_cases h65:g = 65
 ·subst h65; exact qbp.call k hC X ι h w args xs κ out hX0 R hv e
 by_cases h66:g = 66
 ·subst h66; exact qf.call k hC X ι h w args xs κ out hX0 R hv e
 by_cases h67:g = 67
 ·subst h67; exact qk.call k hC X ι h w args xs κ out hX0 R hv e
 by_cases h51:g = 51
 ·subst h51; exact qbj.call k hC X ι h w args xs κ out hX0 R hv e
 by_cases h34:g = 34
 ·subst h34; exact ql.call k hC X ι h w args xs κ out hX0 R hv e
 by_cases h37:g = 37
 ·subst h37; exact qbe.call k hC X ι h w args xs κ out hX0 R hv e
 by_cases h52:g = 52
 ·subst h52; exact qv.call k hC X ι h w args xs κ out hX0 R hv e
 by_cases h36:g = 36
 ·subst h36; exact qr.call k hC X ι h w args xs κ out hX0 R hv e
 by_cases h68:g = 68
 ·subst h68; exact qat.call k hC X ι h w args xs κ out hX0 R hv e
 by_cases h75:g = 75
 ·subst h75; exact qan.call k hC X ι h w args xs κ out hX0 R hv e
 by_cases h69:g = 69
 ·subst h69; exact qak.call k hC X ι h w args xs κ out hX0 R hv e
 by_cases h70:g = 70
 ·subst h70; exact qah.call k hC X ι h w args xs κ out hX0 R hv e
 by_cases h39:g = 39
 ·subst h39; exact qav.call k hC X ι h w args xs κ out hX0 R hv e
 by_cases h63:g = 63
 ·subst h63; exact qbf.call k hC X ι h w args xs κ out hX0 R hv e
 by_cases h77:g = 77
 ·subst h77; exact qaj.call k hC X ι h w args xs κ out hX0 R hv e
 by_cases h76:g = 76
 ·subst h76; exact qaq.call k hC X ι h w args xs κ out hX0 R hv e
 by_cases h38:g = 38
 ·subst h38; exact qai.call k hC X ι h w args xs κ out hX0 R hv e
 by_cases h53:g = 53
 ·subst h53; exact qab.call k hC X ι h w args xs κ out hX0 R hv e
 by_cases h54:g = 54
 ·subst h54; exact qao.call k hC X ι h w args xs κ out hX0 R hv e
 by_cases h71:g = 71
 ·subst h71; exact qd.call k hC X ι h w args xs κ out hX0 R hv e
 by_cases h78:g = 78
 ·subst h78; exact qae.call k hC X ι h w args xs κ out hX0 R hv e
 by_cases h21:g = 21
 ·subst h21; exact qaf.call k hC X ι h w args xs κ out hX0 R hv e
 by_cases h45:g = 45
 ·subst h45; exact qaz.call k hC X ι h w args xs κ out hX0 R hv e
 by_cases h62:g = 62
 ·subst h62; exact qz.call k hC X ι h w args xs κ out hX0 R hv e
 by_cases h47:g = 47
 ·subst h47; exact qax.call k hC X ι h w args xs κ out hX0 R hv e
 by_cases h48:g = 48
 ·subst h48; exact qam.call k hC X ι h w args xs κ out hX0 R hv e
 by_cases h30:g = 30
 ·subst h30; exact qbl.call k hC X ι h w args xs κ out hX0 R hv e
 by_cases h32:g = 32
 ·subst h32; exact qbs.call k hC X ι h w args xs κ out hX0 R hv e
 by_cases h49:g = 49
 ·subst h49; exact qaa.call k hC X ι h w args xs κ out hX0 R hv e
 by_cases h31:g = 31
 ·subst h31; exact qbm.call k hC X ι h w args xs κ out hX0 R hv e
 by_cases h33:g = 33
 ·subst h33; exact qy.call k hC X ι h w args xs κ out hX0 R hv e
 by_cases h20:g = 20
 ·subst h20; exact qm.call k hC X ι h w args xs κ out hX0 R hv e
 by_cases h61:g = 61
 ·subst h61; exact qs.call k hC X ι h w args xs κ out hX0 R hv e
 by_cases h46:g = 46
 ·subst h46; exact qb.call k hC X ι h w args xs κ out hX0 R hv e
 by_cases h28:g = 28
 ·subst h28; exact qx.call k hC X ι h w args xs κ out hX0 R hv e
 by_cases h29:g = 29
 ·subst h29; exact qbc.call k hC X ι h w args xs κ out hX0 R hv e
 by_cases h19:g = 19
 ·subst h19; exact qa.call k hC X ι h w args xs κ out hX0 R hv e
 by_cases h27:g = 27
 ·subst h27; exact qo.call k hC X ι h w args xs κ out hX0 R hv e
 by_cases h55:g = 55
 ·subst h55; exact qbh.call k hC X ι h w args xs κ out hX0 R hv e
 by_cases h40:g = 40
 ·subst h40; exact qad.call k hC X ι h w args xs κ out hX0 R hv e
 by_cases h22:g = 22
 ·subst h22; exact qaw.call k hC X ι h w args xs κ out hX0 R hv e
 by_cases h9:g = 9
 ·subst h9; exact qay.call k hC X ι h w args xs κ out hX0 R hv e
 by_cases h12:g = 12
 ·subst h12; exact qn.call k hC X ι h w args xs κ out hX0 R hv e
 by_cases h26:g = 26
 ·subst h26; exact qbq.call k hC X ι h w args xs κ out hX0 R hv e
 by_cases h44:g = 44
 ·subst h44; exact qu.call k hC X ι h w args xs κ out hX0 R hv e
 by_cases h25:g = 25
 ·subst h25; exact qbn.call k hC X ι h w args xs κ out hX0 R hv e
 by_cases h15:g = 15
 ·subst h15; exact qap.call k hC X ι h w args xs κ out hX0 R hv e
 by_cases h8:g = 8
 ·subst h8; exact qbi.call k hC X ι h w args xs κ out hX0 R hv e
 by_cases h10:g = 10
 ·subst h10; exact qbr.call k hC X ι h w args xs κ out hX0 R hv e
 by_cases h11:g = 11
 ·subst h11; exact qba.call k hC X ι h w args xs κ out hX0 R hv e
 by_cases h42:g = 42
 ·subst h42; exact qp.call k hC X ι h w args xs κ out hX0 R hv e
 by_cases h72:g = 72
 ·subst h72; exact qbb.call k hC X ι h w args xs κ out hX0 R hv e
 by_cases h79:g = 79
 ·subst h79; exact qj.call k hC X ι h w args xs κ out hX0 R hv e
 by_cases h80:g = 80
 ·subst h80; exact qbd.call k hC X ι h w args xs κ out hX0 R hv e
 by_cases h73:g = 73
 ·subst h73; exact qbo.call k hC X ι h w args xs κ out hX0 R hv e
 by_cases h56:g = 56
 ·subst h56; exact qg.call k hC X ι h w args xs κ out hX0 R hv e
 by_cases h57:g = 57
 ·subst h57; exact qh.call k hC X ι h w args xs κ out hX0 R hv e
 by_cases h60:g = 60
 ·subst h60; exact qau.call k hC X ι h w args xs κ out hX0 R hv e
 by_cases h58:g = 58
 ·subst h58; exact qi.call k hC X ι h w args xs κ out hX0 R hv e
 by_cases h59:g = 59
 ·subst h59; exact qt.call k hC X ι h w args xs κ out hX0 R hv e
 by_cases h41:g = 41
 ·subst h41; exact qc.call k hC X ι h w args xs κ out hX0 R hv e
 by_cases h23:g = 23
 ·subst h23; exact qal.call k hC X ι h w args xs κ out hX0 R hv e
 by_cases h43:g = 43
 ·subst h43; exact qbk.call k hC X ι h w args xs κ out hX0 R hv e
 by_cases h24:g = 24
 ·subst h24; exact qag.call k hC X ι h w args xs κ out hX0 R hv e
 by_cases h13:g = 13
 ·subst h13; exact qas.call k hC X ι h w args xs κ out hX0 R hv e
 by_cases h14:g = 14
 ·subst h14; exact qar.call k hC X ι h w args xs κ out hX0 R hv e
 by_cases h16:g = 16
 ·subst h16; exact qw.call k hC X ι h w args xs κ out hX0 R hv e
 by_cases h17:g = 17
 ·subst h17; exact qac.call k hC X ι h w args xs κ out hX0 R hv e
 by_cases h18:g = 18
 ·subst h18; exact qbg.call k hC X ι h w args xs κ out hX0 R hv e
 by_cases h4:g = 4
 ·subst h4; exact qq.call k hC X ι h w args xs κ out hX0 R hv e
 exfalso
 have:env k g args κ h = none:=by
  unfold env
  split <;> first | contradiction | rfl
 rw [this] at e
 cases e
theorem env_ok (hL:Laid base w0):∀ k:Nat, zo Try.prog T base w0 (env (α:=α) k):=by
 intro k
 induction k with
 | zero=>exact zpk hL 0 (fun j h=>by cases h)
 | succ k ih=>exact zpk hL (k + 1) (fun j h=>by cases h; exact ih)
end Go.Ab.S7
