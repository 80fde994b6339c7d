/- The statement TopRaisedCardSaid: for every input the call returns true, and the arguments read as before. Shown over an abstract machine whose soundness against the model is proved in the texts beside this one. -/
import Derived.Test.YtdhjpnacjnkbgaaGreatDoorCards
import Derived.Test.YtdhjpnacjnkbgaaGreatDoorTie
import Derived.Test.YtdhjpnacjnkbgaaGreatDoorS9ta
import Derived.Test.YtdhjpnacjnkbgaaGreatDoorS9cl
import Derived.Test.YtdhjpnacjnkbgaaGreatDoorAb25
import Derived.Test.YtdhjpnacjnkbgaaGreatDoorS9p
import Derived.WalkKit
import Derived.ProofKit
import Derived.OpenShut
import Derived.ChangeOld
import Derived.Below
import Derived.Carry
import Derived.ChangeMaps5
import Derived.Deep.DeepHandedRow
import Derived.LaidHandle
import Derived.LaidLaws
import Derived.RowKitTokens
import Derived.LaidMore
import Derived.Lay
import Derived.MakeChecks
import Derived.LaidSub
namespace Go.Proofs.YtdhjpnacjnkbgaaGreatDoor.topRaised
open Go.ChangeShapes Go.WideShapes Go.ChangeAt Go.RowKit
open Go.ChangeMaps (open_string shut_string)
set_option linter.unusedVariables false
theorem laidOut : laidOutB Tryz.prog = true := by kernel_rfl
theorem own : ownKnob Tryz.prog.godebug = none := by kernel_rfl
theorem handle_of_laid {W : World} (h : laidMetH Tryz.prog Rows.topRaisedRow.laid W) : TabAt 0 Lib.deBruijn64tab W := by
 intro r hr0
 have hlen : Lib.deBruijn64tab.length = 64 := by kernel_rfl
 have hr : r < 64 := by omega
 have h' : laidMet Tryz.prog [("math/bits.deBruijn64tab", Rows.laid_math_bits_deBruijn64tab)] W ∧ handlesMet Tryz.prog [("errors.errorType", Rows.laid_errors_errorType)] W := h
 replace h := h'.1
 obtain ⟨ps, ⟨g, t, cs, fuel, p, q, hg, ht, hv, hd, _, _⟩, _, _⟩ := h
 obtain rfl := Option.some.inj ((show Tryz.prog.globalNamed "math/bits.deBruijn64tab" = some 0 by kernel_rfl).symm.trans hg)
 obtain rfl := Option.some.inj ((show (Tryz.prog.globals[0]?).map (·.type) = some 260 by kernel_rfl).symm.trans ht)
 obtain ⟨xs, m, _, ex, _, hl, hel⟩ := DataW.trod_array Tryz.underlying260 hd
 have c5 : Tryz.prog.cellsOf 5 = 1 := by kernel_rfl
 have hE := hel r hr
 rw [c5, Nat.mul_one, List.getElem?_eq_getElem (by omega)] at hE
 obtain ⟨z, e1, e2, _⟩ := DataW.trod_int Tryz.underlying5 hE
 have e3 : (xs.map (·.1)) = Lib.deBruijn64tab.map fun (n : Nat) => (DataW.lit (.int .u8 (n : Int)) : DataW Unit) := (DataW.agg.inj (Prod.mk.inj ex).1).symm
 have e4 : (xs.map (·.1))[r]? = (Lib.deBruijn64tab.map fun (n : Nat) => (DataW.lit (.int .u8 (n : Int)) : DataW Unit))[r]? := by rw [e3]
 rw [List.getElem?_map, List.getElem?_map, List.getElem?_eq_getElem (by omega : r < xs.length), List.getElem?_eq_getElem (by omega : r < Lib.deBruijn64tab.length), e2] at e4
 have hz : z = ((Lib.deBruijn64tab.getD r 0 : Nat) : Int) := by
  simp only [Option.map_some, Option.some.injEq, DataW.lit.injEq, Lit.int.injEq, true_and] at e4
  rw [e4, List.getD, List.getElem?_eq_getElem (by omega : r < Lib.deBruijn64tab.length)]; rfl
 rw [World.var?_cell hg hv r, ← hz]
 have : cs.toList[r]? = some (.int .u8 z) := by
  have h0 : ((cs.toList.drop r).take 1)[0]? = some (.int .u8 z) := by rw [e1]; rfl
  simpa using h0
 simpa using this
def tabs : List (String × DataW Unit) := [("math/bits.deBruijn64tab", Rows.laid_math_bits_deBruijn64tab)]
noncomputable def cellWorld (os : Os) : World :=
 { World.holding Tryz.prog os ⟨#[], #[], []⟩ with heap := (World.holding Tryz.prog os ⟨#[], #[], []⟩).heap.modify 1 fun
   | .cells _ t frozen => .cells #[.iface 306 (.agg #[.pointer (some ⟨3, 55, none⟩)])] t frozen
   | o => o }
noncomputable def laidWorld (os : Os) : World := (cellWorld os).layVars Tryz.prog tabs
theorem laid_plain {P : Program} {w0 : World} {laid : List (String × DataW Unit)} (args : Array Value)
  (hf : w0.layFits P laid [] = true) (hi : w0.layIfaces P laid (w0.layVars P laid) = true) :
  laidMet P laid ((w0.layVars P laid).forCall (fun _ _ => 0) ⟨#[], args, []⟩).memory := by
 have e1 : (laid.filter fun x => (laid.map (·.1)).contains x.1) = laid := List.filter_eq_self.2 fun x hx => List.contains_iff_mem.2 (List.mem_map.2 ⟨x, hx, rfl⟩)
 have e2 : (laid.filter fun x => !(laid.map (·.1)).contains x.1) = [] := List.filter_eq_nil_iff.2 fun x hx => by rw [List.contains_iff_mem.2 (List.mem_map.2 ⟨x, hx, rfl⟩)]; simp
 have h : laidMet P laid (w0.layVars P laid) := laidMet_layVars (w0 := w0) (laid.map (·.1)) [] (by rw [e1]) (by rw [e1]; exact hf) (by rw [e1]; exact hi) (by rw [e2]; exact LaidIn.none)
 exact h.of_heap (by simp [World.memory, World.forCall, Input.heap])
theorem laid_met (os : Os) (args : Array Value) : laidMetH Tryz.prog Rows.topRaisedRow.laid ((laidWorld os).forCall (fun _ _ => 0) ⟨#[], args, []⟩).memory :=
 laidMetH_of_parts (show laidMet Tryz.prog tabs _ from laid_plain (w0 := cellWorld os) args (by kernel_rfl) (by kernel_rfl)) (by kernel_rfl)
theorem reads (os : Os) {H : Type} (enc : TypeId × Value->H) : ∃ places, DataW.whole enc Tryz.prog ((laidWorld os).forCall (fun _ _ => 0) ⟨#[], #[.agg #[.slice none 0 0, .slice none 0 0, .slice none 0 0], .int .i64 0], []⟩).memory Tryz.f4.params.toList Rows.topRaisedSpec.vars false (#[.agg #[.slice none 0 0, .slice none 0 0, .slice none 0 0], .int .i64 0] : Array Value).toList 8 = some ([.agg [.nil, .nil, .nil], .lit (.int .i64 0)], [], places) :=
 ⟨[], by kernel_rfl⟩
theorem wt {H : Type} {P : Program} {t : TypeId} {ts : List TypeId} {d : DataW H} {ds : List (DataW H)} (h : (DataW.weightsEach P (t :: ts) (d :: ds)).all (·≤reachBytes) = true) :
  (d.weights P t).all (·≤reachBytes) = true ∧ (DataW.weightsEach P ts ds).all (·≤reachBytes) = true := by
 simp only [DataW.weightsEach, List.all_append, Bool.and_eq_true] at h
 exact h
theorem walk (W : World) (a0 : Value) (a1 : Int) (h : Ab.H) (ι : Ab.Io) (R : Ab.HR Ab.S9.T W.heap.size W (fun _ => False) ι h W) (g0 : Ab.S9.Gm) (o0 u0 m0 : Ab.Sl) (e0 : Ab.VR ι (Ab.okOf h fun _ => False) (.agg [.slice o0, .slice u0, .slice m0]) a0) (r0 : Ab.S9.GmR h o0 u0 m0 g0) (n0 : Ab.S9.GN g0) (w1 : (Lit.int .i64 a1).wf = true) (hg : TabAt 0 Lib.deBruijn64tab W) :
  Calls Tryz.prog 4 #[a0, .int .i64 a1] W fun e w' => e = .returned (.bool true) ∧ Below W.heap.size W w' := by
 have hlt : 0 < W.heap.size := by
  have hg := hg 0 (by show 0 < 64; decide)
  rcases Nat.eq_zero_or_pos W.heap.size with h0 | h
  ·simp [World.cell?, h0] at hg
  ·exact h
 obtain ⟨k, h', hl⟩ := Ab.S9.TopRaised_law r0 n0 a1
 exact Ab.law_from Ab.S9.wide_ok Ab.S9.tab_ok (Ab.S9.env_ok ⟨hlt, hg⟩ k) Tryz.func4 (by kernel_rfl : Tryz.f4.body = some Ab.S9.qv.c.code) (by decide) (by kernel_rfl : Tryz.f4.results.toList = Ab.S9.qv.res) (by kernel_rfl : Ab.icOk Ab.S9.T Tryz.f4.ntmps Ab.S9.qv.c = true)
  R (by exact ⟨e0, ⟨rfl, trivial⟩⟩) (Nat.le_of_ble_eq_true rfl) ((congrFun (Ab.S9.qv.ok k _ _ _ _ Ab.κ0) h).trans (hl _ _))
set_option maxRecDepth 10000 in
theorem contract (H : Type) (enc : TypeId × Value->H) (W : World) (base : Nat) (args : Array Value) (ds gs : List (DataW H)) (before : List MemPlace)
  (hval : ∀ (j : Nat) t v, Tryz.f4.params[j]? = some t->args[j]? = some v->Value.okWide Tryz.prog W .any base t v)
  {us : List TypeId} (hB : (DataW.weightsEach Tryz.prog (Tryz.f4.params.toList ++ us) (ds ++ gs)).all (·≤reachBytes) = true)
  (hW : DataW.Whole enc Tryz.prog Tryz.f4.params.toList Rows.topRaisedSpec.vars false W args.toList ds gs before) (hL : laidMetH Tryz.prog Rows.topRaisedRow.laid W) :
  Calls Tryz.prog 4 args W fun e W' => ∃ v, e = .returned v ∧ Rows.topRaisedSpec.post enc Tryz.prog Tryz.f4 false true false false W args v W' := by
 have hW' := hW
 obtain ⟨p, q, hA0, hV, rfl, hfz, hnd⟩ := hW
 have hA : DataW.TrodAll enc Tryz.prog W 0 (fun _ => true) true Tryz.f4.params.toList args.toList ds p := hA0
 rw [Tryz.params4] at hA hval hB
 obtain ⟨v0, vs0, d0, ds0, p0, q0, hargs, rfl, rfl, h0, r0⟩ := trodAll_cons hA
 obtain ⟨v1, vs1, d1, ds1, p1, q1, rfl, rfl, rfl, h1, r1⟩ := trodAll_cons r0
 obtain ⟨rfl, rfl, rfl⟩ := trodAll_nil r1
 obtain rfl : args = #[v0, v1] := by cases args; simp_all
 obtain ⟨rfl, rfl⟩ := trodVars_none hV
 have h00 : ∃ arr elem fr, W.heap[0]? = some (.cells arr elem fr) := by
  have h1 := handle_of_laid hL 0 (by show 0 < 64; decide)
  unfold World.cell? at h1
  dsimp only at h1
  split at h1
  ·exact ⟨_, _, _, by assumption⟩
  ·cases h1
 have b0 := wt hB
 have b1 := wt b0.2
 have hv0 : Value.okWide Tryz.prog W .any base 25 v0 := (hval 0 25 v0 (by simp) (by simp))
 obtain ⟨g0, o0, u0, m0, B0, n0, e0⟩ := Ab.S9.open_game Tryz.underlying25 (by kernel_rfl) ⟨rfl, rfl, rfl⟩ ⟨rfl, rfl, rfl, by kernel_rfl, by kernel_rfl⟩ Tryz.underlying23 (by kernel_rfl) Tryz.underlying22 (by kernel_rfl) (by kernel_rfl) Tryz.underlying3 h00 hv0 h0 b0.1
 have hlt0 : ∀ x ∈ p0, x.block < W.heap.size := fun x hx => hW'.lt x (by simp [hx])
 obtain ⟨a1, rfl, rfl, rfl, w1⟩ := open_int Tryz.underlying3 (hval 1 3 v1 (by simp) (by simp)) h1
 obtain ⟨h, ι, nn0, R, z0, y0⟩ := Ab.open1 (T := Ab.S9.T) (fun _ => rfl) e0
 clear hA0 hval hB
 refine (walk W v0 a1 h ι R g0 _ _ _ z0 y0 n0 w1 (handle_of_laid hL)).mono fun e W' ⟨he, bel⟩ => ?_
 subst he
 exact ⟨_, rfl, _, _, _, [], _, [], hW', trodAll_mk1 (shut_bool Tryz.underlying4 _), (trodAll_cons_mk (Below.trod laidOut (by kernel_rfl) (of_decide_eq_true (by kernel_rfl)) h0 bel hlt0) (trodAll_cons_mk (shut_int Tryz.underlying3 w1) trodAll_mk0)), rfl, bel.frame _, fun h => by cases h⟩
set_option maxRecDepth 100000 in
theorem lifted (os : Os) (started : os.Started) (H : Type) (enc : TypeId × Value->H) (F : Stop.Interp) :
  ReturnsInHanded {} Tryz.checked os 4 .any ((OpenSpec.ofChange Rows.topRaisedSpec).preRow enc Tryz.prog Tryz.f4 Rows.topRaisedRow.domain false Rows.topRaisedRow.laid) (((OpenSpec.ofChange Rows.topRaisedSpec).at F).post enc Tryz.prog Tryz.f4 false true false false) := by
 obtain ⟨places, hx⟩ := reads os enc
 refine returnsInHanded_of_row (C := Tryz.checked) (s := OpenSpec.ofChange Rows.topRaisedSpec) own started (by kernel_rfl) Tryz.func4
  (witness_row_at (enc := enc) (C := Tryz.checked) false (laidWorld os) #[.agg #[.slice none 0 0, .slice none 0 0, .slice none 0 0], .int .i64 0] ((World.layVars_os _ _ _).trans rfl) (by kernel_rfl) (by kernel_rfl) (by kernel_rfl)
   (OpenSpec.preRow_of_cond 8 hx (by kernel_rfl) (fun k hk => by cases hk) (by kernel_rfl) (laid_met os _))) ?_
 intro W base args ds gs before hval hW _ _ hB hL _ _
 exact contract H enc W base args ds gs before hval hB hW hL
theorem jI : Tryz.pinned.checked.prog.inPlace 4 = Rows.topRaisedRow.inPlace := by kernel_rfl
theorem jU : Tryz.pinned.checked.prog.unfollowed 4 = Rows.topRaisedRow.unfollowed := by kernel_rfl
theorem jR : Tryz.pinned.checked.prog.recurses 4 = Rows.topRaisedRow.recurses := by kernel_rfl
theorem jN : Tryz.pinned.checked.prog.varsNamed 4 = Rows.topRaisedRow.named := by kernel_rfl
theorem facts : joinedFacts Tryz.pinned.checked.prog 4 Tryz.f4 (OpenSpec.ofChange Rows.topRaisedSpec).bare Rows.topRaisedRow = true := by
 unfold joinedFacts
 rw [jI, jU, jR, jN]
 kernel_rfl
theorem said : Rows.TopRaisedSaid :=
 OpenClaim.holds_of_cond 4 Tryz.f4 rfl rfl rfl rfl rfl rfl rfl ⟨rfl, rfl, rfl, rfl, rfl⟩ rfl rfl rfl rfl rfl (by kernel_rfl) Tryz.func4 facts
  (of_decide_eq_true (by kernel_rfl)) (by unfold Func.isWrapper; first | (rw [if_pos (by decide +kernel)]; kernel_rfl) | (rw [if_neg (by decide +kernel)]; exact ⟨rfl, rfl⟩))
  (fun os started H enc _ F => by rw [OpenClaim.pre_eq_preRow]; exact lifted os started H enc F)
theorem plain (f : FuncId) (fn : Func) (hf : Tryz.pinned.checked.prog.funcNamed "bailiff/bailifftop.TopRaised" = some f) (hfn : Tryz.pinned.checked.prog.funcs[f]? = some fn) :
  true = Tryz.pinned.checked.prog.looks [] ∧ ∀ (j : Nat) t, fn.params[j]? = some t->Tryz.pinned.checked.prog.wantsStandIn t = false := by
 obtain rfl : f = 4 := Option.some.inj ((show Tryz.prog.funcNamed "bailiff/bailifftop.TopRaised" = some 4 by kernel_rfl).symm.trans hf) |>.symm
 obtain rfl : fn = Tryz.f4 := (Option.some.inj (Tryz.func4.symm.trans hfn)).symm
 refine ⟨by kernel_rfl, fun j t ht => ?_⟩
 rw [Tryz.params4] at ht
 have hm := Array.mem_of_getElem? ht
 simp at hm
 rcases hm with rfl | rfl
 ·exact (show Tryz.prog.wantsStandIn 25 = false by kernel_rfl)
 ·exact (show Tryz.prog.wantsStandIn 3 = false by kernel_rfl)
theorem card : Rows.TopRaisedCardSaid :=
 Claim7.holds_tied_plain_at .later [] _ _ _ _ said (fun _ h => by cases h) (by kernel_rfl) (fun _ h => by cases h) topRaised_row_tie rfl ⟨rfl, rfl⟩ (by kernel_rfl) rfl plain (by kernel_rfl)
end Go.Proofs.YtdhjpnacjnkbgaaGreatDoor.topRaised
namespace Go.Proofs.YtdhjpnacjnkbgaaGreatDoor
theorem topRaised_holds : Rows.TopRaisedCardSaid := topRaised.card
#print axioms topRaised_holds
end Go.Proofs.YtdhjpnacjnkbgaaGreatDoor
