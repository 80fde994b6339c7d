/- The statement NormFormsSaid: for every input the call returns true, and the arguments read as before. Shown over an abstract machine whose soundness against the model is proved in the texts beside this one. -/
import Derived.Test.YtmanohnlcedeaaaRows
import Derived.Test.YtmanohnlcedeaaaS7lz
import Derived.Test.YtmanohnlcedeaaaS7cl
import Derived.Test.YtmanohnlcedeaaaS7p
import Derived.WalkKit
import Derived.ProofKit
import Derived.OpenShut
import Derived.ChangeOld
import Derived.Below
import Derived.Carry
import Derived.ChangeMaps5
import Derived.Deep.DeepHandedRow
import Derived.LaidHandle
import Derived.LaidLaws
import Derived.RowKitTokens
namespace Go.Proofs.Ytmanohnlcedeaaa.normForms
open Go.ChangeShapes Go.WideShapes Go.ChangeAt Go.RowKit
open Go.ChangeMaps (open_string shut_string)
set_option linter.unusedVariables false
theorem own : ownKnob Try.prog.godebug = none := by kernel_rfl
theorem laidOut : laidOutB Try.prog = true := by kernel_rfl
noncomputable def seen (os : Os) : World := World.holding Try.prog os ⟨#[], #[], []⟩
theorem laid_met (os : Os) (args : Array Value) : laidMetH Try.prog Rows.normFormsRow.laid ((seen os).forCall (fun _ _ => 0) ⟨#[], args, []⟩).memory :=
 laidMetH_of_parts (laidMet_nil _ _) (by kernel_rfl)
theorem reads (os : Os) {H : Type} (enc : TypeId × Value->H) : ∃ places, DataW.whole enc Try.prog ((seen os).forCall (fun _ _ => 0) ⟨#[], #[.slice none 0 0], []⟩).memory Try.f4.params.toList Rows.normFormsSpec.vars false (#[.slice none 0 0] : Array Value).toList 8 = some ([.nil], [], places) :=
 ⟨[], by kernel_rfl⟩
theorem wt {H : Type} {P : Program} {t : TypeId} {ts : List TypeId} {d : DataW H} {ds : List (DataW H)} (h : (DataW.weightsEach P (t :: ts) (d :: ds)).all (·≤reachBytes) = true) :
  (d.weights P t).all (·≤reachBytes) = true ∧ (DataW.weightsEach P ts ds).all (·≤reachBytes) = true := by
 simp only [DataW.weightsEach, List.all_append, Bool.and_eq_true] at h
 exact h
theorem walk (W : World) (a0 : Value) (l : List Ab.S7.Nd) (s : Ab.Sl) (h : Ab.H) (ι : Ab.Io) (R : Ab.HR Ab.S7.T W.heap.size W (fun _ => False) ι h W) (hv : Ab.VR ι (Ab.okOf h fun _ => False) (.slice s) a0) (r : Ab.S7.NdR h s l) (hnl : Ab.S7.NL l) (hr : Ab.S7.Room l.length)  :
  Calls Try.prog 4 #[a0] W fun e w' => e = .returned (.bool true) ∧ Below W.heap.size W w' := by
 obtain ⟨k, h', hl⟩ := Ab.S7.NormForms_law r hnl hr 
 exact Ab.law_from Ab.S7.wide_ok Ab.S7.tab_ok (Ab.S7.env_ok trivial k) Try.func4 (by kernel_rfl : Try.f4.body = some Ab.S7.qq.c.code) (by decide) (by kernel_rfl : Try.f4.results.toList = Ab.S7.qq.res) (by kernel_rfl : Ab.icOk Ab.S7.T Try.f4.ntmps Ab.S7.qq.c = true)
  R (by exact ⟨hv, trivial⟩) (Nat.le_of_ble_eq_true rfl) ((congrFun (Ab.S7.qq.ok k _ Ab.κ0) h).trans (hl _ _))
set_option maxRecDepth 10000 in
theorem contract (H : Type) (enc : TypeId × Value->H) (W : World) (base : Nat) (args : Array Value) (ds gs : List (DataW H)) (before : List MemPlace)
  (hval : ∀ (j : Nat) t v, Try.f4.params[j]? = some t->args[j]? = some v->Value.okWide Try.prog W .any base t v)
  {us : List TypeId} (hB : (DataW.weightsEach Try.prog (Try.f4.params.toList ++ us) (ds ++ gs)).all (·≤reachBytes) = true)
  (hW : DataW.Whole enc Try.prog Try.f4.params.toList Rows.normFormsSpec.vars false W args.toList ds gs before) :
  Calls Try.prog 4 args W fun e W' => ∃ v, e = .returned v ∧ Rows.normFormsSpec.post enc Try.prog Try.f4 false true false false W args v W' := by
 have hW' := hW
 obtain ⟨p, q, hA0, hV, rfl, hfz, hnd⟩ := hW
 have hA : DataW.TrodAll enc Try.prog W 0 (fun _ => true) true Try.f4.params.toList args.toList ds p := hA0
 rw [Try.params4] at hA hval hB
 obtain ⟨v0, vs0, d0, ds0, p0, q0, hargs, rfl, rfl, h0, r0⟩ := trodAll_cons hA
 obtain ⟨rfl, rfl, rfl⟩ := trodAll_nil r0
 obtain rfl : args = #[v0] := by cases args; simp_all
 obtain ⟨rfl, rfl⟩ := trodVars_none hV
 have b0 := wt hB
 have hv0 : Value.okWide Try.prog W .any base 22 v0 := (hval 0 22 v0 (by simp) (by simp))
 obtain ⟨l, s, h, ι, R, hv, r, hnl, hr⟩ := Ab.S7.open_nodes Try.underlying22 (by kernel_rfl : Try.prog.bytesOf 25 = 48) Try.underlying25 (by kernel_rfl) ⟨rfl, rfl, rfl, rfl, rfl⟩ ⟨by kernel_rfl, by kernel_rfl, by kernel_rfl, by kernel_rfl, by kernel_rfl⟩ ⟨by kernel_rfl, by kernel_rfl, by kernel_rfl, by kernel_rfl, by kernel_rfl⟩ hv0 h0 b0.1 (T := Ab.S7.T) (fun _ => rfl)
 have hlt : ∀ x ∈ p0, x.block < W.heap.size := fun x hx => hW'.lt x (by simp [hx])
 clear hA0 hval hB
 refine (walk W v0 l s h ι R hv r hnl hr).mono fun e W' ⟨he, bel⟩ => ?_
 subst he
 exact ⟨_, rfl, _, _, _, [], _, [], hW', trodAll_mk1 (shut_bool Try.underlying4 _), (trodAll_cons_mk (Below.trod laidOut (by kernel_rfl) (of_decide_eq_true (by kernel_rfl)) h0 bel hlt) trodAll_mk0), rfl, bel.frame _, fun h => by cases h⟩
set_option maxRecDepth 100000 in
theorem lifted (os : Os) (started : os.Started) (H : Type) (enc : TypeId × Value->H) (F : Stop.Interp) :
  ReturnsInHanded {} Try.checked os 4 .any ((OpenSpec.ofChange Rows.normFormsSpec).preRow enc Try.prog Try.f4 Rows.normFormsRow.domain false Rows.normFormsRow.laid) (((OpenSpec.ofChange Rows.normFormsSpec).at F).post enc Try.prog Try.f4 false true false false) := by
 obtain ⟨places, hx⟩ := reads os enc
 refine returnsInHanded_of_row (C := Try.checked) (s := OpenSpec.ofChange Rows.normFormsSpec) own started (by kernel_rfl) Try.func4
  (witness_row_at (enc := enc) (C := Try.checked) false (seen os) #[.slice none 0 0] rfl (by kernel_rfl) (by kernel_rfl) (by kernel_rfl)
   (OpenSpec.preRow_of_cond 8 hx (by kernel_rfl) (fun k hk => by cases hk) (by kernel_rfl) (laid_met os _))) ?_
 intro W base args ds gs before hval hW _ _ hB hL _ _
 exact contract H enc W base args ds gs before hval hB hW
theorem said : Rows.NormFormsSaid :=
 OpenClaim.holds_of_cond 4 Try.f4 rfl rfl rfl rfl rfl rfl rfl ⟨rfl, rfl, rfl, rfl, rfl⟩ rfl rfl rfl rfl rfl (by kernel_rfl) Try.func4 (by kernel_rfl)
  (of_decide_eq_true (by kernel_rfl)) (by unfold Func.isWrapper; first | (rw [if_pos (by decide +kernel)]; kernel_rfl) | (rw [if_neg (by decide +kernel)]; exact ⟨rfl, rfl⟩))
  (fun os started H enc _ F => by rw [OpenClaim.pre_eq_preRow]; exact lifted os started H enc F)
end Go.Proofs.Ytmanohnlcedeaaa.normForms
namespace Go.Proofs.Ytmanohnlcedeaaa
theorem normForms_holds : Rows.NormFormsSaid := normForms.said
#print axioms normForms_holds
end Go.Proofs.Ytmanohnlcedeaaa
