/- The statement SyntaxPairsSaid: for every input the call returns true, and the arguments read as before. Shown over an abstract machine whose soundness against the model is proved in the texts beside this one. -/
import Derived.Test.YtkfoohgkbafafaaRows
import Derived.Test.YtkfoohgkbafafaaS3Pairs
import Derived.Test.YtkfoohgkbafafaaAb21
import Derived.Test.YtkfoohgkbafafaaS3s
import Derived.Test.YtkfoohgkbafafaaS3p
import Derived.WalkKit
import Derived.ProofKit
import Derived.OpenShut
import Derived.ChangeOld
import Derived.Below
import Derived.Carry
import Derived.ChangeMaps5
import Derived.Deep.DeepHandedRow
import Derived.LaidHandle
import Derived.LaidLaws
import Derived.RowKitTokens
namespace Go.Proofs.Ytkfoohgkbafafaa.syntaxPairs
open Go.ChangeShapes Go.WideShapes Go.ChangeAt Go.RowKit
open Go.ChangeMaps (open_string shut_string)
set_option linter.unusedVariables false
theorem own : ownKnob Try.prog.godebug = none := by kernel_rfl
theorem laidOut : laidOutB Try.prog = true := by kernel_rfl
noncomputable def seen (os : Os) : World := World.holding Try.prog os ⟨#[], #[], []⟩
theorem laid_met (os : Os) (args : Array Value) : laidMetH Try.prog Rows.syntaxPairsRow.laid ((seen os).forCall (fun _ _ => 0) ⟨#[], args, []⟩).memory :=
  laidMetH_of_parts (laidMet_nil _ _) (by kernel_rfl)
theorem reads (os : Os) {H : Type} (enc : TypeId × Value → H) : ∃ places, DataW.whole enc Try.prog ((seen os).forCall (fun _ _ => 0) ⟨#[], #[.string ByteArray.empty, .string ByteArray.empty, .bool false], []⟩).memory Try.f10.params.toList Rows.syntaxPairsSpec.vars false (#[.string ByteArray.empty, .string ByteArray.empty, .bool false] : Array Value).toList 8 = some ([.lit (.string []), .lit (.string []), .lit (.bool false)], [], places) :=
  ⟨[], by kernel_rfl⟩
theorem wt {H : Type} {P : Program} {t : TypeId} {ts : List TypeId} {d : DataW H} {ds : List (DataW H)} (h : (DataW.weightsEach P (t :: ts) (d :: ds)).all (· ≤ reachBytes) = true) :
    (d.weights P t).all (· ≤ reachBytes) = true ∧ (DataW.weightsEach P ts ds).all (· ≤ reachBytes) = true := by
  simp only [DataW.weightsEach, List.all_append, Bool.and_eq_true] at h
  exact h
theorem wt_str {H : Type} {P : Program} {t : TypeId} {b : List UInt8} (h : ((DataW.lit (H := H) (.string b)).weights P t).all (· ≤ reachBytes) = true) : b.length ≤ reachBytes := by
  simpa [DataW.weights] using h
theorem walk (W : World) (a0 : ByteArray) (a1 : ByteArray) (a2 : Bool)  (y0 : a0.data.toList.length ≤ reachBytes) (y1 : a1.data.toList.length ≤ reachBytes) :
    Calls Try.prog 10 #[.string a0, .string a1, .bool a2] W fun e w' => e = .returned (.bool true) ∧ Below W.heap.size W w' := by
  obtain ⟨k, h', hl⟩ := Ab.S3.SyntaxPairs_law a0.data.toList a1.data.toList a2 y0 y1
  exact Ab.law_from Ab.S3.wide_ok Ab.S3.tab_ok (Ab.S3.env_ok trivial k) Try.func10 (by kernel_rfl : Try.f10.body = some Ab.S3.w4SyntaxPairs.c.code) (by decide) (by kernel_rfl : Try.f10.results.toList = Ab.S3.w4SyntaxPairs.res) (by kernel_rfl : Ab.icOk Ab.S3.T Try.f10.ntmps Ab.S3.w4SyntaxPairs.c = true)
    (Ab.HR.init (fun _ => rfl) W) (by exact ⟨⟨_, rfl, rfl⟩, ⟨⟨_, rfl, rfl⟩, ⟨rfl, trivial⟩⟩⟩) (Nat.le_of_ble_eq_true rfl) ((congrFun (Ab.S3.w4SyntaxPairs.ok k _ _ _ Ab.κ0) Ab.h0).trans (hl _ _))
set_option maxRecDepth 10000 in
theorem contract (H : Type) (enc : TypeId × Value → H) (W : World) (base : Nat) (args : Array Value) (ds gs : List (DataW H)) (before : List MemPlace)
    (hval : ∀ (j : Nat) t v, Try.f10.params[j]? = some t → args[j]? = some v → Value.okWide Try.prog W .any base t v)
    {us : List TypeId} (hB : (DataW.weightsEach Try.prog (Try.f10.params.toList ++ us) (ds ++ gs)).all (· ≤ reachBytes) = true)
    (hW : DataW.Whole enc Try.prog Try.f10.params.toList Rows.syntaxPairsSpec.vars false W args.toList ds gs before) :
    Calls Try.prog 10 args W fun e W' => ∃ v, e = .returned v ∧ Rows.syntaxPairsSpec.post enc Try.prog Try.f10 false true false false W args v W' := by
  have hW' := hW
  obtain ⟨p, q, hA0, hV, rfl, hfz, hnd⟩ := hW
  have hA : DataW.TrodAll enc Try.prog W 0 (fun _ => true) true Try.f10.params.toList args.toList ds p := hA0
  rw [Try.params10] at hA hval hB
  obtain ⟨v0, vs0, d0, ds0, p0, q0, hargs, rfl, rfl, h0, r0⟩ := trodAll_cons hA
  obtain ⟨v1, vs1, d1, ds1, p1, q1, rfl, rfl, rfl, h1, r1⟩ := trodAll_cons r0
  obtain ⟨v2, vs2, d2, ds2, p2, q2, rfl, rfl, rfl, h2, r2⟩ := trodAll_cons r1
  obtain ⟨rfl, rfl, rfl⟩ := trodAll_nil r2
  obtain rfl : args = #[v0, v1, v2] := by cases args; simp_all
  obtain ⟨rfl, rfl⟩ := trodVars_none hV
  have b0 := wt hB
  have b1 := wt b0.2
  have b2 := wt b1.2
  obtain ⟨a0, rfl, rfl, rfl, y0⟩ := open_string Try.underlying9 (hval 0 9 v0 (by simp) (by simp)) h0
  obtain ⟨a1, rfl, rfl, rfl, y1⟩ := open_string Try.underlying9 (hval 1 9 v1 (by simp) (by simp)) h1
  obtain ⟨a2, rfl, rfl, rfl⟩ := open_bool Try.underlying4 (hval 2 4 v2 (by simp) (by simp)) h2
  clear hA0 hval hB
  refine (walk W a0 a1 a2 (wt_str b0.1) (wt_str b1.1)).mono fun e W' ⟨he, bel⟩ => ?_
  subst he
  exact ⟨_, rfl, _, _, _, [], _, [], hW', trodAll_mk1 (shut_bool Try.underlying4 _), (trodAll_cons_mk (shut_string Try.underlying9 y0) (trodAll_cons_mk (shut_string Try.underlying9 y1) (trodAll_cons_mk (shut_bool Try.underlying4 _) trodAll_mk0))), rfl, bel.frame _, fun h => by cases h⟩
set_option maxRecDepth 100000 in
theorem lifted (os : Os) (started : os.Started) (H : Type) (enc : TypeId × Value → H) (F : Stop.Interp) :
    ReturnsInHanded {} Try.checked os 10 .any ((OpenSpec.ofChange Rows.syntaxPairsSpec).preRow enc Try.prog Try.f10 Rows.syntaxPairsRow.domain false Rows.syntaxPairsRow.laid) (((OpenSpec.ofChange Rows.syntaxPairsSpec).at F).post enc Try.prog Try.f10 false true false false) := by
  obtain ⟨places, hx⟩ := reads os enc
  refine returnsInHanded_of_row (C := Try.checked) (s := OpenSpec.ofChange Rows.syntaxPairsSpec) own started (by kernel_rfl) Try.func10
    (witness_row_at (enc := enc) (C := Try.checked) false (seen os) #[.string ByteArray.empty, .string ByteArray.empty, .bool false] rfl (by kernel_rfl) (by kernel_rfl) (by kernel_rfl)
      (OpenSpec.preRow_of_cond 8 hx (by kernel_rfl) (fun k hk => by cases hk) (by kernel_rfl) (laid_met os _))) ?_
  intro W base args ds gs before hval hW _ _ hB hL _ _
  exact contract H enc W base args ds gs before hval hB hW
theorem said : Rows.SyntaxPairsSaid :=
  OpenClaim.holds_of_cond 10 Try.f10 rfl rfl rfl rfl rfl rfl rfl ⟨rfl, rfl, rfl, rfl, rfl⟩ rfl rfl rfl rfl rfl (by kernel_rfl) Try.func10 (by kernel_rfl)
    (of_decide_eq_true (by kernel_rfl)) (by unfold Func.isWrapper; first | (rw [if_pos (by decide +kernel)]; kernel_rfl) | (rw [if_neg (by decide +kernel)]; exact ⟨rfl, rfl⟩))
    (fun os started H enc _ F => by rw [OpenClaim.pre_eq_preRow]; exact lifted os started H enc F)
end Go.Proofs.Ytkfoohgkbafafaa.syntaxPairs
namespace Go.Proofs.Ytkfoohgkbafafaa
theorem syntaxPairs_holds : Rows.SyntaxPairsSaid := syntaxPairs.said
#print axioms syntaxPairs_holds
end Go.Proofs.Ytkfoohgkbafafaa
