/- The statement PagesSwappedCardSaid: for every input the call returns true, and the arguments read as before. Shown over an abstract machine whose soundness against the model is proved in the texts beside this one. -/
import Derived.Test.YtjohdighlhoofaaDoorCards
import Derived.Test.YtjohdighlhoofaaDoorTie
import Derived.Test.YtjohdighlhoofaaDoorS8l9
import Derived.Test.YtjohdighlhoofaaDoorS8cl
import Derived.Test.YtjohdighlhoofaaDoorAb25
import Derived.Test.YtjohdighlhoofaaDoorS8p
import Derived.WalkKit
import Derived.ProofKit
import Derived.OpenShut
import Derived.ChangeOld
import Derived.Below
import Derived.Carry
import Derived.ChangeMaps5
import Derived.Deep.DeepHandedRow
import Derived.LaidHandle
import Derived.LaidLaws
import Derived.RowKitTokens
import Derived.LaidMore
import Derived.Lay
import Derived.LaidSub
import Derived.Lib.LaidTab
namespace Go.Proofs.YtjohdighlhoofaaDoor.pagesSwapped
open Go.ChangeShapes Go.WideShapes Go.ChangeAt Go.RowKit
open Go.ChangeMaps (open_string shut_string)
set_option linter.unusedVariables false
theorem laidOut : laidOutB Tryd.prog = true := by kernel_rfl
theorem own : ownKnob Tryd.prog.godebug = none := by kernel_rfl
theorem et : Tryd.prog.globalNamed "errors.errorType" = some 0 := by kernel_rfl
theorem rt : (Tryd.prog.cutTypes.find? (·.1 == "internal/reflectlite.rtype")).map (·.2) = some 100 := by kernel_rfl
theorem oneRow : ((List.range 158).filter fun t => Tryd.prog.rowNamed t [101, 114, 114, 111, 114]) = [32] := by kernel_rfl
def tabs : List (String × DataW Unit) := [("math/bits.deBruijn32tab", Rows.laid_math_bits_deBruijn32tab), ("math/bits.deBruijn64tab", Rows.laid_math_bits_deBruijn64tab), ("internal/strconv.uint64pow10", Rows.laid_internal_strconv_uint64pow10)]
theorem handle_of_laid {W : World} (h : laidMetH Tryd.prog Rows.pagesSwappedRow.laid W) : W.cell? ⟨0, 0, none⟩ = some (.iface 100 (.agg #[.pointer (some ⟨5, 32, none⟩)])) ∧ Lib.TabIs Tryd.prog W "internal/strconv.uint64pow10" .u64 Lib.pow10Tab := by
 have h' : laidMet Tryd.prog tabs W ∧ handlesMet Tryd.prog [("errors.errorType", Rows.laid_errors_errorType)] W := h
 constructor
 rotate_left
 ·have h2 : laidMet Tryd.prog [("internal/strconv.uint64pow10", Lib.tabData .u64 Lib.pow10Tab)] W := h'.1.filter (fun x => x.1 == "internal/strconv.uint64pow10")
  exact Lib.tabIs_of_head (by kernel_rfl : Tryd.prog.globalNamed "internal/strconv.uint64pow10" = some 1) (by kernel_rfl : (Tryd.prog.globals[1]?).map (·.type) = some 120) Tryd.underlying120 Tryd.underlying90 (by kernel_rfl) (by kernel_rfl) h2
 obtain ⟨name, u, ty, e1, e2, e3, e4, e5⟩ := h'.2 _ (List.mem_singleton.2 rfl)
 have en : name = [101, 114, 114, 111, 114] := (Option.some.inj e1).symm
 subst en
 obtain rfl := Option.some.inj (rt.symm.trans e2)
 have hm : ty ∈ (List.range 158).filter fun t => Tryd.prog.rowNamed t [101, 114, 114, 111, 114] := List.mem_filter.2 ⟨List.mem_range.2 (by rw [← Tryd.types_size]; exact e3), e4⟩
 rw [oneRow] at hm
 obtain rfl := List.mem_singleton.1 hm
 have hh : typeHandle Tryd.prog 32 = .pointer (some ⟨5, 32, none⟩) := by kernel_rfl
 rw [hh] at e5
 simpa using World.var?_cell et e5 0
noncomputable def cellWorld (os : Os) : World :=
 { World.holding Tryd.prog os ⟨#[], #[], []⟩ with heap := (World.holding Tryd.prog os ⟨#[], #[], []⟩).heap.modify 0 fun
   | .cells _ t frozen => .cells #[.iface 100 (.agg #[.pointer (some ⟨5, 32, none⟩)])] t frozen
   | o => o }
noncomputable def laidWorld (os : Os) : World := (cellWorld os).layVars Tryd.prog tabs
theorem laid_plain {P : Program} {w0 : World} {laid : List (String × DataW Unit)} (args : Array Value)
  (hf : w0.layFits P laid [] = true) (hi : w0.layIfaces P laid (w0.layVars P laid) = true) :
  laidMet P laid ((w0.layVars P laid).forCall (fun _ _ => 0) ⟨#[], args, []⟩).memory := by
 have e1 : (laid.filter fun x => (laid.map (·.1)).contains x.1) = laid := List.filter_eq_self.2 fun x hx => List.contains_iff_mem.2 (List.mem_map.2 ⟨x, hx, rfl⟩)
 have e2 : (laid.filter fun x => !(laid.map (·.1)).contains x.1) = [] := List.filter_eq_nil_iff.2 fun x hx => by rw [List.contains_iff_mem.2 (List.mem_map.2 ⟨x, hx, rfl⟩)]; simp
 have h : laidMet P laid (w0.layVars P laid) := laidMet_layVars (w0 := w0) (laid.map (·.1)) [] (by rw [e1]) (by rw [e1]; exact hf) (by rw [e1]; exact hi) (by rw [e2]; exact LaidIn.none)
 exact h.of_heap (by simp [World.memory, World.forCall, Input.heap])
theorem laid_met (os : Os) (args : Array Value) : laidMetH Tryd.prog Rows.pagesSwappedRow.laid ((laidWorld os).forCall (fun _ _ => 0) ⟨#[], args, []⟩).memory :=
 laidMetH_of_parts (show laidMet Tryd.prog tabs _ from laid_plain (w0 := cellWorld os) args (by kernel_rfl) (by kernel_rfl)) (by kernel_rfl)
theorem reads (os : Os) {H : Type} (enc : TypeId × Value->H) : ∃ places, DataW.whole enc Tryd.prog ((laidWorld os).forCall (fun _ _ => 0) ⟨#[], #[.agg #[.slice none 0 0, .slice none 0 0, .slice none 0 0], .int .i64 0, .int .i64 0], []⟩).memory Tryd.f9.params.toList Rows.pagesSwappedSpec.vars false (#[.agg #[.slice none 0 0, .slice none 0 0, .slice none 0 0], .int .i64 0, .int .i64 0] : Array Value).toList 8 = some ([.agg [.nil, .nil, .nil], .lit (.int .i64 0), .lit (.int .i64 0)], [], places) :=
 ⟨[], by kernel_rfl⟩
theorem wt {H : Type} {P : Program} {t : TypeId} {ts : List TypeId} {d : DataW H} {ds : List (DataW H)} (h : (DataW.weightsEach P (t :: ts) (d :: ds)).all (·≤reachBytes) = true) :
  (d.weights P t).all (·≤reachBytes) = true ∧ (DataW.weightsEach P ts ds).all (·≤reachBytes) = true := by
 simp only [DataW.weightsEach, List.all_append, Bool.and_eq_true] at h
 exact h
theorem walk (W : World) (a0 : Value) (a1 : Int) (a2 : Int) (h : Ab.H) (ι : Ab.Io) (R : Ab.HR Ab.S8.T W.heap.size W (fun _ => False) ι h W) (g0 : Ab.S8.Gm) (o0 u0 m0 : Ab.Sl) (e0 : Ab.VR ι (Ab.okOf h fun _ => False) (.agg [.slice o0, .slice u0, .slice m0]) a0) (r0 : Ab.S8.GmR h o0 u0 m0 g0) (n0 : Ab.S8.GN g0) (w1 : (Lit.int .i64 a1).wf = true) (w2 : (Lit.int .i64 a2).wf = true) (hg : W.cell? ⟨0, 0, none⟩ = some (.iface 100 (.agg #[.pointer (some ⟨5, 32, none⟩)])) ∧ Lib.TabIs Tryd.prog W "internal/strconv.uint64pow10" .u64 Lib.pow10Tab) :
  Calls Tryd.prog 9 #[a0, .int .i64 a1, .int .i64 a2] W fun e w' => e = .returned (.bool true) ∧ Below W.heap.size W w' := by
 have hlt : 1 < W.heap.size := by
  have hg := hg.2.cell (by kernel_rfl : Tryd.prog.globalNamed "internal/strconv.uint64pow10" = some 1) 0 (by decide +kernel)
  rcases Nat.lt_or_ge 1 W.heap.size with h | h0
  ·exact h
  ·simp [World.cell?, show W.heap[1]? = none from Array.getElem?_eq_none h0] at hg
 obtain ⟨k, h', hl⟩ := Ab.S8.PagesSwapped_law r0 n0 a1 a2 w1 w2
 exact Ab.law_from Ab.S8.wide_ok Ab.S8.tab_ok (Ab.S8.env_ok ⟨Nat.lt_of_succ_lt hlt, hg.1, hlt, hg.2⟩ k) Tryd.func9 (by kernel_rfl : Tryd.f9.body = some Ab.S8.qc.c.code) (by decide) (by kernel_rfl : Tryd.f9.results.toList = Ab.S8.qc.res) (by kernel_rfl : Ab.icOk Ab.S8.T Tryd.f9.ntmps Ab.S8.qc.c = true)
  R (by exact ⟨e0, ⟨rfl, ⟨rfl, trivial⟩⟩⟩) (Nat.le_of_ble_eq_true rfl) ((congrFun (Ab.S8.qc.ok k _ _ _ _ _ Ab.κ0) h).trans (hl _ _))
set_option maxRecDepth 10000 in
theorem contract (H : Type) (enc : TypeId × Value->H) (W : World) (base : Nat) (args : Array Value) (ds gs : List (DataW H)) (before : List MemPlace)
  (hval : ∀ (j : Nat) t v, Tryd.f9.params[j]? = some t->args[j]? = some v->Value.okWide Tryd.prog W .any base t v)
  {us : List TypeId} (hB : (DataW.weightsEach Tryd.prog (Tryd.f9.params.toList ++ us) (ds ++ gs)).all (·≤reachBytes) = true)
  (hW : DataW.Whole enc Tryd.prog Tryd.f9.params.toList Rows.pagesSwappedSpec.vars false W args.toList ds gs before) (hL : laidMetH Tryd.prog Rows.pagesSwappedRow.laid W) :
  Calls Tryd.prog 9 args W fun e W' => ∃ v, e = .returned v ∧ Rows.pagesSwappedSpec.post enc Tryd.prog Tryd.f9 false true false false W args v W' := by
 have hW' := hW
 obtain ⟨p, q, hA0, hV, rfl, hfz, hnd⟩ := hW
 have hA : DataW.TrodAll enc Tryd.prog W 0 (fun _ => true) true Tryd.f9.params.toList args.toList ds p := hA0
 rw [Tryd.params9] at hA hval hB
 obtain ⟨v0, vs0, d0, ds0, p0, q0, hargs, rfl, rfl, h0, r0⟩ := trodAll_cons hA
 obtain ⟨v1, vs1, d1, ds1, p1, q1, rfl, rfl, rfl, h1, r1⟩ := trodAll_cons r0
 obtain ⟨v2, vs2, d2, ds2, p2, q2, rfl, rfl, rfl, h2, r2⟩ := trodAll_cons r1
 obtain ⟨rfl, rfl, rfl⟩ := trodAll_nil r2
 obtain rfl : args = #[v0, v1, v2] := by cases args; simp_all
 obtain ⟨rfl, rfl⟩ := trodVars_none hV
 have h00 : ∃ arr elem fr, W.heap[0]? = some (.cells arr elem fr) := by
  have h1 := (handle_of_laid hL).1
  unfold World.cell? at h1
  dsimp only at h1
  split at h1
  ·exact ⟨_, _, _, by assumption⟩
  ·cases h1
 have b0 := wt hB
 have b1 := wt b0.2
 have b2 := wt b1.2
 have hv0 : Value.okWide Tryd.prog W .any base 25 v0 := (hval 0 25 v0 (by simp) (by simp))
 obtain ⟨g0, o0, u0, m0, B0, n0, e0⟩ := Ab.S8.open_game Tryd.underlying25 (by kernel_rfl) ⟨rfl, rfl, rfl⟩ ⟨rfl, rfl, rfl, by kernel_rfl, by kernel_rfl⟩ Tryd.underlying23 (by kernel_rfl) Tryd.underlying22 (by kernel_rfl) (by kernel_rfl) Tryd.underlying3 h00 hv0 h0 b0.1
 have hlt0 : ∀ x ∈ p0, x.block < W.heap.size := fun x hx => hW'.lt x (by simp [hx])
 obtain ⟨a1, rfl, rfl, rfl, w1⟩ := open_int Tryd.underlying3 (hval 1 3 v1 (by simp) (by simp)) h1
 obtain ⟨a2, rfl, rfl, rfl, w2⟩ := open_int Tryd.underlying3 (hval 2 3 v2 (by simp) (by simp)) h2
 obtain ⟨h, ι, nn0, R, z0, y0⟩ := Ab.open1 (T := Ab.S8.T) (fun _ => rfl) e0
 clear hA0 hval hB
 refine (walk W v0 a1 a2 h ι R g0 _ _ _ z0 y0 n0 w1 w2 (handle_of_laid hL)).mono fun e W' ⟨he, bel⟩ => ?_
 subst he
 exact ⟨_, rfl, _, _, _, [], _, [], hW', trodAll_mk1 (shut_bool Tryd.underlying4 _), (trodAll_cons_mk (Below.trod laidOut (by kernel_rfl) (of_decide_eq_true (by kernel_rfl)) h0 bel hlt0) (trodAll_cons_mk (shut_int Tryd.underlying3 w1) (trodAll_cons_mk (shut_int Tryd.underlying3 w2) trodAll_mk0))), rfl, bel.frame _, fun h => by cases h⟩
set_option maxRecDepth 100000 in
theorem lifted (os : Os) (started : os.Started) (H : Type) (enc : TypeId × Value->H) (F : Stop.Interp) :
  ReturnsInHanded {} Tryd.checked os 9 .any ((OpenSpec.ofChange Rows.pagesSwappedSpec).preRow enc Tryd.prog Tryd.f9 Rows.pagesSwappedRow.domain false Rows.pagesSwappedRow.laid) (((OpenSpec.ofChange Rows.pagesSwappedSpec).at F).post enc Tryd.prog Tryd.f9 false true false false) := by
 obtain ⟨places, hx⟩ := reads os enc
 refine returnsInHanded_of_row (C := Tryd.checked) (s := OpenSpec.ofChange Rows.pagesSwappedSpec) own started (by kernel_rfl) Tryd.func9
  (witness_row_at (enc := enc) (C := Tryd.checked) false (laidWorld os) #[.agg #[.slice none 0 0, .slice none 0 0, .slice none 0 0], .int .i64 0, .int .i64 0] ((World.layVars_os _ _ _).trans rfl) (by kernel_rfl) (by kernel_rfl) (by kernel_rfl)
   (OpenSpec.preRow_of_cond 8 hx (by kernel_rfl) (fun k hk => by cases hk) (by kernel_rfl) (laid_met os _))) ?_
 intro W base args ds gs before hval hW _ _ hB hL _ _
 exact contract H enc W base args ds gs before hval hB hW hL
theorem said : Rows.PagesSwappedSaid :=
 OpenClaim.holds_of_cond 9 Tryd.f9 rfl rfl rfl rfl rfl rfl rfl ⟨rfl, rfl, rfl, rfl, rfl⟩ rfl rfl rfl rfl rfl (by kernel_rfl) Tryd.func9 (by kernel_rfl)
  (of_decide_eq_true (by kernel_rfl)) (by unfold Func.isWrapper; first | (rw [if_pos (by decide +kernel)]; kernel_rfl) | (rw [if_neg (by decide +kernel)]; exact ⟨rfl, rfl⟩))
  (fun os started H enc _ F => by rw [OpenClaim.pre_eq_preRow]; exact lifted os started H enc F)
theorem plain (f : FuncId) (fn : Func) (hf : Tryd.pinned.checked.prog.funcNamed "bailiff/bailifflaw10.PagesSwapped" = some f) (hfn : Tryd.pinned.checked.prog.funcs[f]? = some fn) :
  true = Tryd.pinned.checked.prog.looks [] ∧ ∀ (j : Nat) t, fn.params[j]? = some t->Tryd.pinned.checked.prog.wantsStandIn t = false := by
 obtain rfl : f = 9 := Option.some.inj ((show Tryd.prog.funcNamed "bailiff/bailifflaw10.PagesSwapped" = some 9 by kernel_rfl).symm.trans hf) |>.symm
 obtain rfl : fn = Tryd.f9 := (Option.some.inj (Tryd.func9.symm.trans hfn)).symm
 refine ⟨by kernel_rfl, fun j t ht => ?_⟩
 rw [Tryd.params9] at ht
 have hm := Array.mem_of_getElem? ht
 simp at hm
 rcases hm with rfl | rfl
 ·exact (show Tryd.prog.wantsStandIn 25 = false by kernel_rfl)
 ·exact (show Tryd.prog.wantsStandIn 3 = false by kernel_rfl)
theorem card : Rows.PagesSwappedCardSaid :=
 Claim7.holds_tied_plain_at .later [] _ _ _ _ said (fun _ h => by cases h) (by kernel_rfl) (fun _ h => by cases h) pagesSwapped_row_tie rfl ⟨rfl, rfl⟩ (by kernel_rfl) rfl plain (by kernel_rfl)
end Go.Proofs.YtjohdighlhoofaaDoor.pagesSwapped
namespace Go.Proofs.YtjohdighlhoofaaDoor
theorem pagesSwapped_holds : Rows.PagesSwappedCardSaid := pagesSwapped.card
#print axioms pagesSwapped_holds
end Go.Proofs.YtjohdighlhoofaaDoor
