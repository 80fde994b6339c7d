/- The statement ScanNamesCardSaid: for every input the call returns true, and the arguments read as before. Shown over an abstract machine whose soundness against the model is proved in the texts beside this one. -/
import Derived.Test.YtdblogjcoihcmaaDoorCards
import Derived.Test.YtdblogjcoihcmaaDoorTie
import Derived.Test.YtdblogjcoihcmaaDoorS2Names
import Derived.Test.YtdblogjcoihcmaaDoorS2p
import Derived.WalkKit
import Derived.ProofKit
import Derived.OpenShut
import Derived.ChangeOld
import Derived.Below
import Derived.ChangeMaps5
import Derived.Deep.DeepHandedRow
import Derived.LaidHandle
import Derived.LaidLaws
import Derived.RowKitTokens
namespace Go.Proofs.YtdblogjcoihcmaaDoor.scanNames
open Go.ChangeShapes Go.WideShapes Go.ChangeAt Go.RowKit
open Go.ChangeMaps (open_string shut_string)
set_option linter.unusedVariables false
theorem own : ownKnob Tryd.prog.godebug = none := by kernel_rfl
theorem et : Tryd.prog.globalNamed "errors.errorType" = some 0 := by kernel_rfl
theorem rt : (Tryd.prog.cutTypes.find? (·.1 == "internal/reflectlite.rtype")).map (·.2) = some 70 := by kernel_rfl
theorem oneRow : ((List.range 113).filter fun t => Tryd.prog.rowNamed t [101, 114, 114, 111, 114]) = [25] := by kernel_rfl
theorem handle_of_laid {W : World} (h : laidMetH Tryd.prog Rows.scanNamesRow.laid W) : W.cell? ⟨0, 0, none⟩ = some (.iface 70 (.agg #[.pointer (some ⟨2, 25, none⟩)])) := by
  have h' : laidMet Tryd.prog [] W ∧ handlesMet Tryd.prog Rows.scanNamesRow.laid W := h
  obtain ⟨name, u, ty, e1, e2, e3, e4, e5⟩ := h'.2 _ (List.mem_singleton.2 rfl)
  have en : name = [101, 114, 114, 111, 114] := (Option.some.inj e1).symm
  subst en
  obtain rfl := Option.some.inj (rt.symm.trans e2)
  have hm : ty ∈ (List.range 113).filter fun t => Tryd.prog.rowNamed t [101, 114, 114, 111, 114] := List.mem_filter.2 ⟨List.mem_range.2 (by rw [← Tryd.types_size]; exact e3), e4⟩
  rw [oneRow] at hm
  obtain rfl := List.mem_singleton.1 hm
  have hh : typeHandle Tryd.prog 25 = .pointer (some ⟨2, 25, none⟩) := by kernel_rfl
  rw [hh] at e5
  simpa using World.var?_cell et e5 0
/-- A world that meets the condition: the settled one, the variable's cell laid. -/
noncomputable def laidWorld (os : Os) : World :=
  { World.holding Tryd.prog os ⟨#[], #[], []⟩ with heap := (World.holding Tryd.prog os ⟨#[], #[], []⟩).heap.modify 0 fun
      | .cells _ t frozen => .cells #[.iface 70 (.agg #[.pointer (some ⟨2, 25, none⟩)])] t frozen
      | o => o }
theorem laid_met (os : Os) (args : Array Value) : laidMetH Tryd.prog Rows.scanNamesRow.laid ((laidWorld os).forCall (fun _ _ => 0) ⟨#[], args, []⟩).memory :=
  laidMetH_of_parts (laidMet_nil _ _) (by kernel_rfl)
theorem reads (os : Os) {H : Type} (enc : TypeId × Value → H) : ∃ places, DataW.whole enc Tryd.prog ((laidWorld os).forCall (fun _ _ => 0) ⟨#[], #[.int .u8 0, .string ByteArray.empty, .int .i64 0], []⟩).memory Tryd.f6.params.toList Rows.scanNamesSpec.vars false (#[.int .u8 0, .string ByteArray.empty, .int .i64 0] : Array Value).toList 8 = some ([.lit (.int .u8 0), .lit (.string []), .lit (.int .i64 0)], [], places) :=
  ⟨[], by kernel_rfl⟩
theorem wt_str {H : Type} {P : Program} {t : TypeId} {ts : List TypeId} {b : List UInt8} {ds : List (DataW H)} (h : (DataW.weightsEach P (t :: ts) (.lit (.string b) :: ds)).all (· ≤ reachBytes) = true) :
    b.length ≤ reachBytes ∧ (DataW.weightsEach P ts ds).all (· ≤ reachBytes) = true := by
  simp only [DataW.weightsEach, DataW.weights, List.all_append, List.all_cons, List.all_nil, Bool.and_true, Bool.and_eq_true, decide_eq_true_eq] at h
  exact h
theorem wt_int {H : Type} {P : Program} {t : TypeId} {ts : List TypeId} {k : IntKind} {n : Int} {ds : List (DataW H)} (h : (DataW.weightsEach P (t :: ts) (.lit (.int k n) :: ds)).all (· ≤ reachBytes) = true) :
    True ∧ (DataW.weightsEach P ts ds).all (· ≤ reachBytes) = true := by
  simp only [DataW.weightsEach, DataW.weights, List.nil_append] at h
  exact ⟨trivial, h⟩
theorem wt_bool {H : Type} {P : Program} {t : TypeId} {ts : List TypeId} {n : Bool} {ds : List (DataW H)} (h : (DataW.weightsEach P (t :: ts) (.lit (.bool n) :: ds)).all (· ≤ reachBytes) = true) :
    True ∧ (DataW.weightsEach P ts ds).all (· ≤ reachBytes) = true := by
  simp only [DataW.weightsEach, DataW.weights, List.nil_append] at h
  exact ⟨trivial, h⟩
theorem walk (a0 : Int) (a1 : ByteArray) (a2 : Int) (w0 : (Lit.int .u8 a0).wf = true) (w2 : (Lit.int .i64 a2).wf = true) (y1 : a1.data.toList.length ≤ reachBytes) (W : World) (hg : W.cell? ⟨0, 0, none⟩ = some (.iface 70 (.agg #[.pointer (some ⟨2, 25, none⟩)]))) :
    Calls Tryd.prog 6 #[.int .u8 a0, .string a1, .int .i64 a2] W fun e w' => e = .returned (.bool true) ∧ Below W.heap.size W w' := by
  have hlt : 0 < W.heap.size := by
    rcases Nat.eq_zero_or_pos W.heap.size with h0 | h
    · simp [World.cell?, h0] at hg
    · exact h
  obtain ⟨k, h', hr⟩ := Ab.S2.Names_law a0 a1.data.toList a2 w0 w2 y1
  exact Ab.law_below Ab.S2.wide_ok Ab.S2.tab_ok (fun _ => rfl) (Ab.S2.env_ok ⟨hlt, hg⟩ k) Tryd.func6 (by kernel_rfl : Tryd.f6.body = some Ab.S2.bailifflaw02_ScanNames.c.code) (by decide) (by kernel_rfl : Tryd.f6.results.toList = Ab.S2.bailifflaw02_ScanNames.res) (by kernel_rfl : Ab.icOk Ab.S2.T Tryd.f6.ntmps Ab.S2.bailifflaw02_ScanNames.c = true)
    (by exact ⟨rfl, ⟨⟨_, rfl, rfl⟩, ⟨rfl, trivial⟩⟩⟩) (Nat.le_of_ble_eq_true rfl) ((congrFun (Ab.S2.bailifflaw02_ScanNames.ok k _ _ _ Ab.κ0) Ab.h0).trans (hr _ _))
theorem contract (H : Type) (enc : TypeId × Value → H) (W : World) (base : Nat) (args : Array Value) (ds gs : List (DataW H)) (before : List MemPlace)
    (hval : ∀ (j : Nat) t v, Tryd.f6.params[j]? = some t → args[j]? = some v → Value.okWide Tryd.prog W .any base t v)
    {us : List TypeId} (hB : (DataW.weightsEach Tryd.prog (Tryd.f6.params.toList ++ us) (ds ++ gs)).all (· ≤ reachBytes) = true)
    (hW : DataW.Whole enc Tryd.prog Tryd.f6.params.toList Rows.scanNamesSpec.vars false W args.toList ds gs before) (hL : laidMetH Tryd.prog Rows.scanNamesRow.laid W) :
    Calls Tryd.prog 6 args W fun e W' => ∃ v, e = .returned v ∧ Rows.scanNamesSpec.post enc Tryd.prog Tryd.f6 false true false false W args v W' := by
  have hW' := hW
  obtain ⟨p, q, hA0, hV, rfl, hfz, hnd⟩ := hW
  have hA : DataW.TrodAll enc Tryd.prog W 0 (fun _ => true) true Tryd.f6.params.toList args.toList ds p := hA0
  rw [Tryd.params6] at hA hval hB
  obtain ⟨v0, vs0, d0, ds0, p0, q0, hargs, rfl, rfl, h0, r0⟩ := trodAll_cons hA
  obtain ⟨v1, vs1, d1, ds1, p1, q1, rfl, rfl, rfl, h1, r1⟩ := trodAll_cons r0
  obtain ⟨v2, vs2, d2, ds2, p2, q2, rfl, rfl, rfl, h2, r2⟩ := trodAll_cons r1
  obtain ⟨rfl, rfl, rfl⟩ := trodAll_nil r2
  obtain rfl : args = #[v0, v1, v2] := by cases args; simp_all
  obtain ⟨rfl, rfl⟩ := trodVars_none hV
  obtain ⟨a0, rfl, rfl, rfl, w0⟩ := open_int Tryd.underlying5 (hval 0 5 v0 rfl rfl) h0
  obtain ⟨a1, rfl, rfl, rfl, y1⟩ := open_string Tryd.underlying9 (hval 1 9 v1 rfl rfl) h1
  obtain ⟨a2, rfl, rfl, rfl, w2⟩ := open_int Tryd.underlying3 (hval 2 3 v2 rfl rfl) h2
  have b0 := wt_int hB
  have b1 := wt_str b0.2
  have b2 := wt_int b1.2
  clear hA0 hval hB
  refine (walk a0 a1 a2 w0 w2 b1.1 W (handle_of_laid hL)).mono fun e W' ⟨he, bel⟩ => ?_
  subst he
  exact ⟨_, rfl, _, _, _, [], _, [], hW', trodAll_mk1 (shut_bool Tryd.underlying4 _), (trodAll_cons_mk (shut_int Tryd.underlying5 w0) (trodAll_cons_mk (shut_string Tryd.underlying9 y1) (trodAll_cons_mk (shut_int Tryd.underlying3 w2) trodAll_mk0))), rfl, bel.frame _, fun h => by cases h⟩
set_option maxRecDepth 100000 in
theorem lifted (os : Os) (started : os.Started) (H : Type) (enc : TypeId × Value → H) (F : Stop.Interp) :
    ReturnsInHanded {} Tryd.checked os 6 .any ((OpenSpec.ofChange Rows.scanNamesSpec).preRow enc Tryd.prog Tryd.f6 Rows.scanNamesRow.domain false Rows.scanNamesRow.laid) (((OpenSpec.ofChange Rows.scanNamesSpec).at F).post enc Tryd.prog Tryd.f6 false true false false) := by
  obtain ⟨places, hx⟩ := reads os enc
  refine returnsInHanded_of_row (C := Tryd.checked) (s := OpenSpec.ofChange Rows.scanNamesSpec) own started (by kernel_rfl) Tryd.func6
    (witness_row_at (enc := enc) (C := Tryd.checked) false (laidWorld os) #[.int .u8 0, .string ByteArray.empty, .int .i64 0] rfl (by kernel_rfl) (by kernel_rfl) (by kernel_rfl)
      (OpenSpec.preRow_of_cond 8 hx (by kernel_rfl) (fun k hk => by cases hk) (by kernel_rfl) (laid_met os _))) ?_
  intro W base args ds gs before hval hW _ _ hB hL _ _
  exact contract H enc W base args ds gs before hval hB hW hL
theorem said : Rows.ScanNamesSaid :=
  OpenClaim.holds_of_cond 6 Tryd.f6 rfl rfl rfl rfl rfl rfl rfl ⟨rfl, rfl, rfl, rfl, rfl⟩ rfl rfl rfl rfl rfl (by kernel_rfl) Tryd.func6 (by kernel_rfl)
    (of_decide_eq_true (by kernel_rfl)) (by unfold Func.isWrapper; first | (rw [if_pos (by decide +kernel)]; kernel_rfl) | (rw [if_neg (by decide +kernel)]; exact ⟨rfl, rfl⟩))
    (fun os started H enc _ F => by rw [OpenClaim.pre_eq_preRow]; exact lifted os started H enc F)
theorem plain (f : FuncId) (fn : Func) (hf : Tryd.pinned.checked.prog.funcNamed "bailiff/bailifflaw02.ScanNames" = some f) (hfn : Tryd.pinned.checked.prog.funcs[f]? = some fn) :
    true = Tryd.pinned.checked.prog.looks [] ∧ ∀ (j : Nat) t, fn.params[j]? = some t → Tryd.pinned.checked.prog.wantsStandIn t = false := by
  obtain rfl : f = 6 := Option.some.inj ((show Tryd.prog.funcNamed "bailiff/bailifflaw02.ScanNames" = some 6 by kernel_rfl).symm.trans hf) |>.symm
  obtain rfl : fn = Tryd.f6 := (Option.some.inj (Tryd.func6.symm.trans hfn)).symm
  refine ⟨by kernel_rfl, fun j t ht => ?_⟩
  rw [Tryd.params6] at ht
  have hm := Array.mem_of_getElem? ht
  simp at hm
  rcases hm with rfl | rfl | rfl
  · exact (show Tryd.prog.wantsStandIn 5 = false by kernel_rfl)
  · exact (show Tryd.prog.wantsStandIn 9 = false by kernel_rfl)
  · exact (show Tryd.prog.wantsStandIn 3 = false by kernel_rfl)
theorem card : Rows.ScanNamesCardSaid :=
  Claim7.holds_tied_plain_at .later [] _ _ _ _ said (fun _ h => by cases h) (by kernel_rfl) (fun _ h => by cases h) scanNames_row_tie rfl ⟨rfl, rfl⟩ (by kernel_rfl) rfl plain (by kernel_rfl)
end Go.Proofs.YtdblogjcoihcmaaDoor.scanNames
namespace Go.Proofs.YtdblogjcoihcmaaDoor
theorem scanNames_holds : Rows.ScanNamesCardSaid := scanNames.card
#print axioms scanNames_holds
end Go.Proofs.YtdblogjcoihcmaaDoor
