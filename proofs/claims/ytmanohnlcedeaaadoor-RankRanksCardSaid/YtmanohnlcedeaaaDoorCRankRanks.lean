/- The statement RankRanksCardSaid: for every input the call returns true, and the arguments read as before. Shown over an abstract machine whose soundness against the model is proved in the texts beside this one. -/
import Derived.Test.YtmanohnlcedeaaaDoorCards
import Derived.Test.YtmanohnlcedeaaaDoorTie
import Derived.Test.YtmanohnlcedeaaaDoorS5lr
import Derived.Test.YtmanohnlcedeaaaDoorS5cf
import Derived.Test.YtmanohnlcedeaaaDoorAb21
import Derived.Test.YtmanohnlcedeaaaDoorS5p
import Derived.WalkKit
import Derived.ProofKit
import Derived.OpenShut
import Derived.ChangeOld
import Derived.Below
import Derived.Carry
import Derived.ChangeMaps5
import Derived.Deep.DeepHandedRow
import Derived.LaidHandle
import Derived.LaidLaws
import Derived.RowKitTokens
import Derived.LaidMore
import Derived.Lay
import Derived.MakeChecks
namespace Go.Proofs.YtmanohnlcedeaaaDoor.rankRanks
open Go.ChangeShapes Go.WideShapes Go.ChangeAt Go.RowKit
open Go.ChangeMaps (open_string shut_string)
set_option linter.unusedVariables false
theorem laidOut : laidOutB Tryd.prog = true := by kernel_rfl
theorem own : ownKnob Tryd.prog.godebug = none := by kernel_rfl
theorem handle_of_laid {W : World} (h : laidMetH Tryd.prog Rows.rankRanksRow.laid W) : TabAt 0 Lib.deBruijn64tab W := by
 intro r hr0
 have hlen : Lib.deBruijn64tab.length = 64 := by kernel_rfl
 have hr : r < 64 := by omega
 rw [MakeChecks.laidMetH_plain _ _ _ (by kernel_rfl)] at h
 obtain ⟨ps, ⟨g, t, cs, fuel, p, q, hg, ht, hv, hd, _, _⟩, _, _⟩ := h
 obtain rfl := Option.some.inj ((show Tryd.prog.globalNamed "math/bits.deBruijn64tab" = some 0 by kernel_rfl).symm.trans hg)
 obtain rfl := Option.some.inj ((show (Tryd.prog.globals[0]?).map (·.type) = some 67 by kernel_rfl).symm.trans ht)
 obtain ⟨xs, m, _, ex, _, hl, hel⟩ := DataW.trod_array Tryd.underlying67 hd
 have c5 : Tryd.prog.cellsOf 5 = 1 := by kernel_rfl
 have hE := hel r hr
 rw [c5, Nat.mul_one, List.getElem?_eq_getElem (by omega)] at hE
 obtain ⟨z, e1, e2, _⟩ := DataW.trod_int Tryd.underlying5 hE
 have e3 : (xs.map (·.1)) = Lib.deBruijn64tab.map fun (n : Nat) => (DataW.lit (.int .u8 (n : Int)) : DataW Unit) := (DataW.agg.inj (Prod.mk.inj ex).1).symm
 have e4 : (xs.map (·.1))[r]? = (Lib.deBruijn64tab.map fun (n : Nat) => (DataW.lit (.int .u8 (n : Int)) : DataW Unit))[r]? := by rw [e3]
 rw [List.getElem?_map, List.getElem?_map, List.getElem?_eq_getElem (by omega : r < xs.length), List.getElem?_eq_getElem (by omega : r < Lib.deBruijn64tab.length), e2] at e4
 have hz : z = ((Lib.deBruijn64tab.getD r 0 : Nat) : Int) := by
  simp only [Option.map_some, Option.some.injEq, DataW.lit.injEq, Lit.int.injEq, true_and] at e4
  rw [e4, List.getD, List.getElem?_eq_getElem (by omega : r < Lib.deBruijn64tab.length)]; rfl
 rw [World.var?_cell hg hv r, ← hz]
 have : cs.toList[r]? = some (.int .u8 z) := by
  have h0 : ((cs.toList.drop r).take 1)[0]? = some (.int .u8 z) := by rw [e1]; rfl
  simpa using h0
 simpa using this
noncomputable def laidWorld (os : Os) : World := World.laidAll Tryd.prog os Rows.rankRanksRow.laid
theorem laid_met (os : Os) (args : Array Value) : laidMetH Tryd.prog Rows.rankRanksRow.laid ((laidWorld os).forCall (fun _ _ => 0) ⟨#[], args, []⟩).memory :=
 by rw [MakeChecks.laidMetH_plain _ _ _ (by kernel_rfl)]; exact laidMet_laidAll _ (by kernel_rfl) (by kernel_rfl)
theorem reads (os : Os) {H : Type} (enc : TypeId × Value->H) : ∃ places, DataW.whole enc Tryd.prog ((laidWorld os).forCall (fun _ _ => 0) ⟨#[], #[.slice none 0 0], []⟩).memory Tryd.f4.params.toList Rows.rankRanksSpec.vars false (#[.slice none 0 0] : Array Value).toList 8 = some ([.nil], [], places) :=
 ⟨[], by kernel_rfl⟩
theorem wt {H : Type} {P : Program} {t : TypeId} {ts : List TypeId} {d : DataW H} {ds : List (DataW H)} (h : (DataW.weightsEach P (t :: ts) (d :: ds)).all (·≤reachBytes) = true) :
  (d.weights P t).all (·≤reachBytes) = true ∧ (DataW.weightsEach P ts ds).all (·≤reachBytes) = true := by
 simp only [DataW.weightsEach, List.all_append, Bool.and_eq_true] at h
 exact h
theorem walk (W : World) (a0 : Value) (l : List Ab.S5.Nd) (s : Ab.Sl) (h : Ab.H) (ι : Ab.Io) (R : Ab.HR Ab.S5.T W.heap.size W (fun _ => False) ι h W) (hv : Ab.VR ι (Ab.okOf h fun _ => False) (.slice s) a0) (r : Ab.S5.NdR h s l) (hnl : Ab.S5.NL l) (hr : Ab.S5.Room l.length) (hf : s.fine 5)  (hg : TabAt 0 Lib.deBruijn64tab W) :
  Calls Tryd.prog 4 #[a0] W fun e w' => e = .returned (.bool true) ∧ Below W.heap.size W w' := by
 have hlt : 0 < W.heap.size := by
  have hg := hg 0 (by show 0 < 64; decide)
  rcases Nat.eq_zero_or_pos W.heap.size with h0 | h
  ·simp [World.cell?, h0] at hg
  ·exact h
 obtain ⟨k, h', hl⟩ := Ab.S5.RankRanks_law r hnl hr hf 
 exact Ab.law_from Ab.S5.wide_ok Ab.S5.tab_ok (Ab.S5.env_ok ⟨hlt, hg⟩ k) Tryd.func4 (by kernel_rfl : Tryd.f4.body = some Ab.S5.qj.c.code) (by decide) (by kernel_rfl : Tryd.f4.results.toList = Ab.S5.qj.res) (by kernel_rfl : Ab.icOk Ab.S5.T Tryd.f4.ntmps Ab.S5.qj.c = true)
  R (by exact ⟨hv, trivial⟩) (Nat.le_of_ble_eq_true rfl) ((congrFun (Ab.S5.qj.ok k _ Ab.κ0) h).trans (hl _ _))
set_option maxRecDepth 10000 in
theorem contract (H : Type) (enc : TypeId × Value->H) (W : World) (base : Nat) (args : Array Value) (ds gs : List (DataW H)) (before : List MemPlace)
  (hval : ∀ (j : Nat) t v, Tryd.f4.params[j]? = some t->args[j]? = some v->Value.okWide Tryd.prog W .any base t v)
  {us : List TypeId} (hB : (DataW.weightsEach Tryd.prog (Tryd.f4.params.toList ++ us) (ds ++ gs)).all (·≤reachBytes) = true)
  (hW : DataW.Whole enc Tryd.prog Tryd.f4.params.toList Rows.rankRanksSpec.vars false W args.toList ds gs before) (hL : laidMetH Tryd.prog Rows.rankRanksRow.laid W) :
  Calls Tryd.prog 4 args W fun e W' => ∃ v, e = .returned v ∧ Rows.rankRanksSpec.post enc Tryd.prog Tryd.f4 false true false false W args v W' := by
 have hW' := hW
 obtain ⟨p, q, hA0, hV, rfl, hfz, hnd⟩ := hW
 have hA : DataW.TrodAll enc Tryd.prog W 0 (fun _ => true) true Tryd.f4.params.toList args.toList ds p := hA0
 rw [Tryd.params4] at hA hval hB
 obtain ⟨v0, vs0, d0, ds0, p0, q0, hargs, rfl, rfl, h0, r0⟩ := trodAll_cons hA
 obtain ⟨rfl, rfl, rfl⟩ := trodAll_nil r0
 obtain rfl : args = #[v0] := by cases args; simp_all
 obtain ⟨rfl, rfl⟩ := trodVars_none hV
 have b0 := wt hB
 have hv0 : Value.okWide Tryd.prog W .any base 22 v0 := (hval 0 22 v0 (by simp) (by simp))
 obtain ⟨l, s, h, ι, R, hv, r, hnl, hr, hf⟩ := Ab.S5.open_nodesF Tryd.underlying22 (by kernel_rfl : Tryd.prog.bytesOf 31 = 48) Tryd.underlying31 (by kernel_rfl) ⟨rfl, rfl, rfl, rfl, rfl⟩ ⟨by kernel_rfl, by kernel_rfl, by kernel_rfl, by kernel_rfl, by kernel_rfl⟩ ⟨by kernel_rfl, by kernel_rfl, by kernel_rfl, by kernel_rfl, by kernel_rfl⟩ hv0 h0 b0.1 (T := Ab.S5.T) (fun _ => rfl)
 have hlt : ∀ x ∈ p0, x.block < W.heap.size := fun x hx => hW'.lt x (by simp [hx])
 clear hA0 hval hB
 refine (walk W v0 l s h ι R hv r hnl hr hf (handle_of_laid hL)).mono fun e W' ⟨he, bel⟩ => ?_
 subst he
 exact ⟨_, rfl, _, _, _, [], _, [], hW', trodAll_mk1 (shut_bool Tryd.underlying4 _), (trodAll_cons_mk (Below.trod laidOut (by kernel_rfl) (of_decide_eq_true (by kernel_rfl)) h0 bel hlt) trodAll_mk0), rfl, bel.frame _, fun h => by cases h⟩
set_option maxRecDepth 100000 in
theorem lifted (os : Os) (started : os.Started) (H : Type) (enc : TypeId × Value->H) (F : Stop.Interp) :
  ReturnsInHanded {} Tryd.checked os 4 .any ((OpenSpec.ofChange Rows.rankRanksSpec).preRow enc Tryd.prog Tryd.f4 Rows.rankRanksRow.domain false Rows.rankRanksRow.laid) (((OpenSpec.ofChange Rows.rankRanksSpec).at F).post enc Tryd.prog Tryd.f4 false true false false) := by
 obtain ⟨places, hx⟩ := reads os enc
 refine returnsInHanded_of_row (C := Tryd.checked) (s := OpenSpec.ofChange Rows.rankRanksSpec) own started (by kernel_rfl) Tryd.func4
  (witness_row_at (enc := enc) (C := Tryd.checked) false (laidWorld os) #[.slice none 0 0] (World.laidAll_os _ _ _) (by kernel_rfl) (by kernel_rfl) (by kernel_rfl)
   (OpenSpec.preRow_of_cond 8 hx (by kernel_rfl) (fun k hk => by cases hk) (by kernel_rfl) (laid_met os _))) ?_
 intro W base args ds gs before hval hW _ _ hB hL _ _
 exact contract H enc W base args ds gs before hval hB hW hL
theorem said : Rows.RankRanksSaid :=
 OpenClaim.holds_of_cond 4 Tryd.f4 rfl rfl rfl rfl rfl rfl rfl ⟨rfl, rfl, rfl, rfl, rfl⟩ rfl rfl rfl rfl rfl (by kernel_rfl) Tryd.func4 (by kernel_rfl)
  (of_decide_eq_true (by kernel_rfl)) (by unfold Func.isWrapper; first | (rw [if_pos (by decide +kernel)]; kernel_rfl) | (rw [if_neg (by decide +kernel)]; exact ⟨rfl, rfl⟩))
  (fun os started H enc _ F => by rw [OpenClaim.pre_eq_preRow]; exact lifted os started H enc F)
theorem plain (f : FuncId) (fn : Func) (hf : Tryd.pinned.checked.prog.funcNamed "bailiff/bailifflaw07.RankRanks" = some f) (hfn : Tryd.pinned.checked.prog.funcs[f]? = some fn) :
  true = Tryd.pinned.checked.prog.looks [] ∧ ∀ (j : Nat) t, fn.params[j]? = some t->Tryd.pinned.checked.prog.wantsStandIn t = false := by
 obtain rfl : f = 4 := Option.some.inj ((show Tryd.prog.funcNamed "bailiff/bailifflaw07.RankRanks" = some 4 by kernel_rfl).symm.trans hf) |>.symm
 obtain rfl : fn = Tryd.f4 := (Option.some.inj (Tryd.func4.symm.trans hfn)).symm
 refine ⟨by kernel_rfl, fun j t ht => ?_⟩
 rw [Tryd.params4] at ht
 have hm := Array.mem_of_getElem? ht
 simp at hm
 subst hm
 exact (show Tryd.prog.wantsStandIn 22 = false by kernel_rfl)
theorem card : Rows.RankRanksCardSaid :=
 Claim7.holds_tied_plain_at .later [] _ _ _ _ said (fun _ h => by cases h) (by kernel_rfl) (fun _ h => by cases h) rankRanks_row_tie rfl ⟨rfl, rfl⟩ (by kernel_rfl) rfl plain (by kernel_rfl)
end Go.Proofs.YtmanohnlcedeaaaDoor.rankRanks
namespace Go.Proofs.YtmanohnlcedeaaaDoor
theorem rankRanks_holds : Rows.RankRanksCardSaid := rankRanks.card
#print axioms rankRanks_holds
end Go.Proofs.YtmanohnlcedeaaaDoor
