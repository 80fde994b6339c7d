/- The statement ScanAllCardSaid: for every input the call returns true, and the arguments read as before. Shown over an abstract machine whose soundness against the model is proved in the texts beside this one. -/
import Derived.Test.YtdblogjcoihcmaaDoorCards
import Derived.Test.YtdblogjcoihcmaaDoorTie
import Derived.Test.YtdblogjcoihcmaaDoorS2All
import Derived.Test.YtdblogjcoihcmaaDoorS2p
import Derived.WalkKit
import Derived.ProofKit
import Derived.OpenShut
import Derived.ChangeOld
import Derived.Below
import Derived.ChangeMaps5
import Derived.Deep.DeepHandedRow
import Derived.LaidHandle
import Derived.LaidLaws
import Derived.RowKitTokens
namespace Go.Proofs.YtdblogjcoihcmaaDoor.scanAll
open Go.ChangeShapes Go.WideShapes Go.ChangeAt Go.RowKit
open Go.ChangeMaps (open_string shut_string)
set_option linter.unusedVariables false
theorem own : ownKnob Tryd.prog.godebug = none := by kernel_rfl
theorem et : Tryd.prog.globalNamed "errors.errorType" = some 0 := by kernel_rfl
theorem rt : (Tryd.prog.cutTypes.find? (·.1 == "internal/reflectlite.rtype")).map (·.2) = some 70 := by kernel_rfl
theorem oneRow : ((List.range 113).filter fun t => Tryd.prog.rowNamed t [101, 114, 114, 111, 114]) = [25] := by kernel_rfl
theorem handle_of_laid {W : World} (h : laidMetH Tryd.prog Rows.scanAllRow.laid W) : W.cell? ⟨0, 0, none⟩ = some (.iface 70 (.agg #[.pointer (some ⟨2, 25, none⟩)])) := by
  have h' : laidMet Tryd.prog [] W ∧ handlesMet Tryd.prog Rows.scanAllRow.laid W := h
  obtain ⟨name, u, ty, e1, e2, e3, e4, e5⟩ := h'.2 _ (List.mem_singleton.2 rfl)
  have en : name = [101, 114, 114, 111, 114] := (Option.some.inj e1).symm
  subst en
  obtain rfl := Option.some.inj (rt.symm.trans e2)
  have hm : ty ∈ (List.range 113).filter fun t => Tryd.prog.rowNamed t [101, 114, 114, 111, 114] := List.mem_filter.2 ⟨List.mem_range.2 (by rw [← Tryd.types_size]; exact e3), e4⟩
  rw [oneRow] at hm
  obtain rfl := List.mem_singleton.1 hm
  have hh : typeHandle Tryd.prog 25 = .pointer (some ⟨2, 25, none⟩) := by kernel_rfl
  rw [hh] at e5
  simpa using World.var?_cell et e5 0
/-- A world that meets the condition: the settled one, the variable's cell laid. -/
noncomputable def laidWorld (os : Os) : World :=
  { World.holding Tryd.prog os ⟨#[], #[], []⟩ with heap := (World.holding Tryd.prog os ⟨#[], #[], []⟩).heap.modify 0 fun
      | .cells _ t frozen => .cells #[.iface 70 (.agg #[.pointer (some ⟨2, 25, none⟩)])] t frozen
      | o => o }
theorem laid_met (os : Os) (args : Array Value) : laidMetH Tryd.prog Rows.scanAllRow.laid ((laidWorld os).forCall (fun _ _ => 0) ⟨#[], args, []⟩).memory :=
  laidMetH_of_parts (laidMet_nil _ _) (by kernel_rfl)
theorem reads (os : Os) {H : Type} (enc : TypeId × Value → H) : ∃ places, DataW.whole enc Tryd.prog ((laidWorld os).forCall (fun _ _ => 0) ⟨#[], #[.string ByteArray.empty], []⟩).memory Tryd.f3.params.toList Rows.scanAllSpec.vars false (#[.string ByteArray.empty] : Array Value).toList 8 = some ([.lit (.string [])], [], places) :=
  ⟨[], by kernel_rfl⟩
theorem wt_str {H : Type} {P : Program} {t : TypeId} {ts : List TypeId} {b : List UInt8} {ds : List (DataW H)} (h : (DataW.weightsEach P (t :: ts) (.lit (.string b) :: ds)).all (· ≤ reachBytes) = true) :
    b.length ≤ reachBytes ∧ (DataW.weightsEach P ts ds).all (· ≤ reachBytes) = true := by
  simp only [DataW.weightsEach, DataW.weights, List.all_append, List.all_cons, List.all_nil, Bool.and_true, Bool.and_eq_true, decide_eq_true_eq] at h
  exact h
theorem wt_int {H : Type} {P : Program} {t : TypeId} {ts : List TypeId} {k : IntKind} {n : Int} {ds : List (DataW H)} (h : (DataW.weightsEach P (t :: ts) (.lit (.int k n) :: ds)).all (· ≤ reachBytes) = true) :
    True ∧ (DataW.weightsEach P ts ds).all (· ≤ reachBytes) = true := by
  simp only [DataW.weightsEach, DataW.weights, List.nil_append] at h
  exact ⟨trivial, h⟩
theorem wt_bool {H : Type} {P : Program} {t : TypeId} {ts : List TypeId} {n : Bool} {ds : List (DataW H)} (h : (DataW.weightsEach P (t :: ts) (.lit (.bool n) :: ds)).all (· ≤ reachBytes) = true) :
    True ∧ (DataW.weightsEach P ts ds).all (· ≤ reachBytes) = true := by
  simp only [DataW.weightsEach, DataW.weights, List.nil_append] at h
  exact ⟨trivial, h⟩
theorem walk (a0 : ByteArray)  (y0 : a0.data.toList.length ≤ reachBytes) (W : World) (hg : W.cell? ⟨0, 0, none⟩ = some (.iface 70 (.agg #[.pointer (some ⟨2, 25, none⟩)]))) :
    Calls Tryd.prog 3 #[.string a0] W fun e w' => e = .returned (.bool true) ∧ Below W.heap.size W w' := by
  have hlt : 0 < W.heap.size := by
    rcases Nat.eq_zero_or_pos W.heap.size with h0 | h
    · simp [World.cell?, h0] at hg
    · exact h
  obtain ⟨k, h', hr⟩ := Ab.S2.All_law a0.data.toList y0
  exact Ab.law_below Ab.S2.wide_ok Ab.S2.tab_ok (fun _ => rfl) (Ab.S2.env_ok ⟨hlt, hg⟩ k) Tryd.func3 (by kernel_rfl : Tryd.f3.body = some Ab.S2.bailifflaw02_ScanAll.c.code) (by decide) (by kernel_rfl : Tryd.f3.results.toList = Ab.S2.bailifflaw02_ScanAll.res) (by kernel_rfl : Ab.icOk Ab.S2.T Tryd.f3.ntmps Ab.S2.bailifflaw02_ScanAll.c = true)
    (by exact ⟨⟨_, rfl, rfl⟩, trivial⟩) (Nat.le_of_ble_eq_true rfl) ((congrFun (Ab.S2.bailifflaw02_ScanAll.ok k _ Ab.κ0) Ab.h0).trans (hr _ _))
theorem contract (H : Type) (enc : TypeId × Value → H) (W : World) (base : Nat) (args : Array Value) (ds gs : List (DataW H)) (before : List MemPlace)
    (hval : ∀ (j : Nat) t v, Tryd.f3.params[j]? = some t → args[j]? = some v → Value.okWide Tryd.prog W .any base t v)
    {us : List TypeId} (hB : (DataW.weightsEach Tryd.prog (Tryd.f3.params.toList ++ us) (ds ++ gs)).all (· ≤ reachBytes) = true)
    (hW : DataW.Whole enc Tryd.prog Tryd.f3.params.toList Rows.scanAllSpec.vars false W args.toList ds gs before) (hL : laidMetH Tryd.prog Rows.scanAllRow.laid W) :
    Calls Tryd.prog 3 args W fun e W' => ∃ v, e = .returned v ∧ Rows.scanAllSpec.post enc Tryd.prog Tryd.f3 false true false false W args v W' := by
  have hW' := hW
  obtain ⟨p, q, hA0, hV, rfl, hfz, hnd⟩ := hW
  have hA : DataW.TrodAll enc Tryd.prog W 0 (fun _ => true) true Tryd.f3.params.toList args.toList ds p := hA0
  rw [Tryd.params3] at hA hval hB
  obtain ⟨v0, vs0, d0, ds0, p0, q0, hargs, rfl, rfl, h0, r0⟩ := trodAll_cons hA
  obtain ⟨rfl, rfl, rfl⟩ := trodAll_nil r0
  obtain rfl : args = #[v0] := by cases args; simp_all
  obtain ⟨rfl, rfl⟩ := trodVars_none hV
  obtain ⟨a0, rfl, rfl, rfl, y0⟩ := open_string Tryd.underlying9 (hval 0 9 v0 rfl rfl) h0
  have b0 := wt_str hB
  clear hA0 hval hB
  refine (walk a0 b0.1 W (handle_of_laid hL)).mono fun e W' ⟨he, bel⟩ => ?_
  subst he
  exact ⟨_, rfl, _, _, _, [], _, [], hW', trodAll_mk1 (shut_bool Tryd.underlying4 _), (trodAll_cons_mk (shut_string Tryd.underlying9 y0) trodAll_mk0), rfl, bel.frame _, fun h => by cases h⟩
set_option maxRecDepth 100000 in
theorem lifted (os : Os) (started : os.Started) (H : Type) (enc : TypeId × Value → H) (F : Stop.Interp) :
    ReturnsInHanded {} Tryd.checked os 3 .any ((OpenSpec.ofChange Rows.scanAllSpec).preRow enc Tryd.prog Tryd.f3 Rows.scanAllRow.domain false Rows.scanAllRow.laid) (((OpenSpec.ofChange Rows.scanAllSpec).at F).post enc Tryd.prog Tryd.f3 false true false false) := by
  obtain ⟨places, hx⟩ := reads os enc
  refine returnsInHanded_of_row (C := Tryd.checked) (s := OpenSpec.ofChange Rows.scanAllSpec) own started (by kernel_rfl) Tryd.func3
    (witness_row_at (enc := enc) (C := Tryd.checked) false (laidWorld os) #[.string ByteArray.empty] rfl (by kernel_rfl) (by kernel_rfl) (by kernel_rfl)
      (OpenSpec.preRow_of_cond 8 hx (by kernel_rfl) (fun k hk => by cases hk) (by kernel_rfl) (laid_met os _))) ?_
  intro W base args ds gs before hval hW _ _ hB hL _ _
  exact contract H enc W base args ds gs before hval hB hW hL
theorem said : Rows.ScanAllSaid :=
  OpenClaim.holds_of_cond 3 Tryd.f3 rfl rfl rfl rfl rfl rfl rfl ⟨rfl, rfl, rfl, rfl, rfl⟩ rfl rfl rfl rfl rfl (by kernel_rfl) Tryd.func3 (by kernel_rfl)
    (of_decide_eq_true (by kernel_rfl)) (by unfold Func.isWrapper; first | (rw [if_pos (by decide +kernel)]; kernel_rfl) | (rw [if_neg (by decide +kernel)]; exact ⟨rfl, rfl⟩))
    (fun os started H enc _ F => by rw [OpenClaim.pre_eq_preRow]; exact lifted os started H enc F)
theorem plain (f : FuncId) (fn : Func) (hf : Tryd.pinned.checked.prog.funcNamed "bailiff/bailifflaw02.ScanAll" = some f) (hfn : Tryd.pinned.checked.prog.funcs[f]? = some fn) :
    true = Tryd.pinned.checked.prog.looks [] ∧ ∀ (j : Nat) t, fn.params[j]? = some t → Tryd.pinned.checked.prog.wantsStandIn t = false := by
  obtain rfl : f = 3 := Option.some.inj ((show Tryd.prog.funcNamed "bailiff/bailifflaw02.ScanAll" = some 3 by kernel_rfl).symm.trans hf) |>.symm
  obtain rfl : fn = Tryd.f3 := (Option.some.inj (Tryd.func3.symm.trans hfn)).symm
  refine ⟨by kernel_rfl, fun j t ht => ?_⟩
  rw [Tryd.params3] at ht
  have hm := Array.mem_of_getElem? ht
  simp at hm
  subst hm
  exact (show Tryd.prog.wantsStandIn 9 = false by kernel_rfl)
theorem card : Rows.ScanAllCardSaid :=
  Claim7.holds_tied_plain_at .later [] _ _ _ _ said (fun _ h => by cases h) (by kernel_rfl) (fun _ h => by cases h) scanAll_row_tie rfl ⟨rfl, rfl⟩ (by kernel_rfl) rfl plain (by kernel_rfl)
end Go.Proofs.YtdblogjcoihcmaaDoor.scanAll
namespace Go.Proofs.YtdblogjcoihcmaaDoor
theorem scanAll_holds : Rows.ScanAllCardSaid := scanAll.card
#print axioms scanAll_holds
end Go.Proofs.YtdblogjcoihcmaaDoor
