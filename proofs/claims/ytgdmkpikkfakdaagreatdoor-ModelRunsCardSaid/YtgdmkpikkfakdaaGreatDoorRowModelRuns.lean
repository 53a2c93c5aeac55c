/- The law cordwoodlaw16.ModelRuns holds, as its card says it: whatever the input that can be read, the call returns true, and each argument reads as it read before; the table block.numbers is what the text lays. -/
import Derived.Test.YtgdmkpikkfakdaaGreatDoorBunModelRuns
import Derived.Test.YtgdmkpikkfakdaaGreatDoorCards
import Derived.Test.YtgdmkpikkfakdaaGreatDoorTie
import Derived.WalkKit
import Derived.ProofKit
import Derived.OpenShut
import Derived.ShutString
import Derived.ChangeOld
import Derived.Below
import Derived.SizedLaws
import Derived.Deep.DeepHandedRow
import Derived.Lib.LaidTab
namespace Go.Proofs.YtgdmkpikkfakdaaGreatDoor
open Go.ChangeShapes Go.WideShapes Go.ChangeAt Go.RowKit
set_option linter.unusedVariables false
theorem run_modelruns (W : World) (hG : GlobOk (fun _ => False) noMu W) {v0 : Value} {x0 : List MOp} (s0 : Sl kOp W (fun _ => False) v0 x0) {n1 : Int} (w1 : (Lit.int .i64 n1).wf = true) :
    Calls Tryz.prog 4 #[v0, .int .i64 n1] W fun e W' => e = .returned (.bool true) ∧ Below W.heap.size W W' :=
  run_apure (vs := [v0, .int .i64 n1]) (mruns_law x0 n1 (olen_of s0)) hG (.cons (rv_ops s0) (.cons (.lit _) .nil))
theorem modelRuns_own : ownKnob Tryz.prog.godebug = none := by kernel_rfl
theorem modelRuns_laidOut : laidOutB Tryz.prog = true := by kernel_rfl
def modelRuns_lay (cs : Array Value) : Obj → Obj
  | .cells _ t frozen => .cells cs t frozen
  | o => o
noncomputable def modelRuns_world (os : Os) : World :=
  { World.holding Tryz.prog os ⟨#[], #[], []⟩ with heap := (((World.holding Tryz.prog os ⟨#[], #[], []⟩).heap.modify 0 (modelRuns_lay (Lib.deBruijn32tab.map fun x : Nat => Value.int .u8 (x : Int)).toArray)).modify 1 (modelRuns_lay (Lib.deBruijn64tab.map fun x : Nat => Value.int .u8 (x : Int)).toArray)).modify 2 (modelRuns_lay (u32s nums)) }
theorem modelRuns_met (os : Os) : laidMet Tryz.prog Rows.modelRunsRow.laid ((modelRuns_world os).forCall (fun _ _ => 0) ⟨#[], #[.slice none 0 0, .int .i64 0], []⟩).memory :=
  laidMet_of_run' 8 (by kernel_rfl) (by kernel_rfl)
theorem modelRuns_reads (os : Os) {H : Type} (enc : TypeId × Value → H) : ∃ places, DataW.whole enc Tryz.prog ((modelRuns_world os).forCall (fun _ _ => 0) ⟨#[], #[.slice none 0 0, .int .i64 0], []⟩).memory Tryz.f4.params.toList Rows.modelRunsSpec.vars false (#[.slice none 0 0, .int .i64 0] : Array Value).toList 8 = some ([.nil, .lit (.int .i64 0)], [], places) :=
  ⟨[], by kernel_rfl⟩
set_option maxRecDepth 100000 in
theorem modelRuns_lifted (os : Os) (started : os.Started) (H : Type) (enc : TypeId × Value → H) (F : Stop.Interp) :
    ReturnsInHanded {} Tryz.checked os 4 .any ((OpenSpec.ofChange Rows.modelRunsSpec).preRow enc Tryz.prog Tryz.f4 Rows.modelRunsRow.domain false Rows.modelRunsRow.laid) (((OpenSpec.ofChange Rows.modelRunsSpec).at F).post enc Tryz.prog Tryz.f4 false true false false) := by
  obtain ⟨places, hx⟩ := modelRuns_reads os enc
  refine returnsInHanded_of_row (C := Tryz.checked) (s := OpenSpec.ofChange Rows.modelRunsSpec) modelRuns_own started (by kernel_rfl) Tryz.func4
    (witness_row_at (enc := enc) (C := Tryz.checked) false (modelRuns_world os) #[.slice none 0 0, .int .i64 0] rfl (by kernel_rfl) (by kernel_rfl) (by kernel_rfl)
      (OpenSpec.preRow_of_cond 8 hx (by kernel_rfl) (fun k hk => by cases hk) (by kernel_rfl) (modelRuns_met os))) ?_
  intro W base args ds gs before hval0 hW _ _ _ hL _ _
  have hG : GlobOk (fun _ => False) noMu W := glob_laid hL
  have hval : ∀ (j : Nat) t v, Tryz.f4.params[j]? = some t → args[j]? = some v → Value.okWide Tryz.prog W .any base t v := hval0
  have hW' := hW
  obtain ⟨p, q, hA0, hV, rfl, hfz, hnd⟩ := hW
  have hA : DataW.TrodAll enc Tryz.prog W 0 (fun _ => true) true Tryz.f4.params.toList args.toList ds p := hA0
  rw [Tryz.params4] at hA hval
  obtain ⟨v0, vs0, d0, ds0, p0, q0, hargs, rfl, rfl, h0, r0⟩ := trodAll_cons hA
  obtain ⟨v1, vs1, d1, ds1, p1, q1, rfl, rfl, rfl, h1, r1⟩ := trodAll_cons r0
  obtain ⟨rfl, rfl, rfl⟩ := trodAll_nil r1
  obtain rfl : args = #[v0, v1] := by cases args; simp_all
  obtain ⟨rfl, rfl⟩ := trodVars_none hV
  obtain ⟨a0, len0, cap0, rfl⟩ := okWide_slice Tryz.underlying44 (hval 0 44 v0 rfl rfl)
  have lt0 : ∀ x ∈ p0, x.block < W.heap.size := by obtain ⟨m, hm⟩ := h0; exact DataW.trod_lt m _ _ _ hm
  obtain ⟨xs0, sl0⟩ := arg_sl opens_ops h0
  obtain ⟨a1, rfl, rfl, rfl, w1⟩ := open_int Tryz.underlying3 (hval 1 3 v1 rfl rfl) h1
  refine (run_modelruns W hG sl0 w1).mono fun e W' ⟨he, bel⟩ => ?_
  subst he
  exact ⟨_, rfl, _, _, _, [], _, [], hW', trodAll_mk1 (shut_bool Tryz.underlying4 _), (trodAll_cons_mk (Below.trod modelRuns_laidOut (by kernel_rfl) (of_decide_eq_true (by kernel_rfl)) h0 bel lt0) (trodAll_cons_mk (shut_int Tryz.underlying3 w1) trodAll_mk0)), rfl, bel.frame _, fun h => by cases h⟩
set_option maxRecDepth 100000
set_option maxHeartbeats 4000000 in
theorem modelRuns_closed : joinedFacts Tryz.pinned.checked.prog 4 Tryz.f4 (OpenSpec.ofChange Rows.modelRunsSpec).bare Rows.modelRunsRow = true := by
  unfold joinedFacts
  repeat' (with_reducible refine andt ?_ ?_)
  all_goals as_aux_lemma => kernel_rfl
theorem modelRuns_inst : Tryz.f4.isInstance Tryz.pinned.checked.prog Rows.modelRunsRow.origin Rows.modelRunsRow.targs := of_decide_eq_true (by kernel_rfl)
theorem modelRuns_wrap : Tryz.f4.isWrapper Tryz.pinned.checked.prog Rows.modelRunsRow.wrapper Rows.modelRunsRow.mainSum := by unfold Func.isWrapper; first | (rw [if_pos (by decide +kernel)]; kernel_rfl) | (rw [if_neg (by decide +kernel)]; exact ⟨rfl, rfl⟩)
theorem modelRuns_named : Tryz.pinned.checked.prog.funcNamed Rows.modelRunsRow.func = some 4 := by kernel_rfl
theorem modelRuns_said : Rows.ModelRunsSaid :=
  OpenClaim.holds_of_cond 4 Tryz.f4 rfl rfl rfl rfl rfl rfl rfl ⟨rfl, rfl, rfl, rfl, rfl⟩ rfl rfl rfl rfl rfl modelRuns_named Tryz.func4 modelRuns_closed modelRuns_inst modelRuns_wrap
    (fun os started H enc _ F => by rw [OpenClaim.pre_eq_preRow]; exact modelRuns_lifted os started H enc F)
theorem modelRuns_plain (f : FuncId) (fn : Func) (hf : Tryz.pinned.checked.prog.funcNamed "cordwood/cordwoodlaw16.ModelRuns" = some f) (hfn : Tryz.pinned.checked.prog.funcs[f]? = some fn) :
    false = Tryz.pinned.checked.prog.looks [] ∧ ∀ (j : Nat) t, fn.params[j]? = some t → Tryz.pinned.checked.prog.wantsStandIn t = false := by
  obtain rfl : f = 4 := Option.some.inj ((show Tryz.prog.funcNamed "cordwood/cordwoodlaw16.ModelRuns" = some 4 by kernel_rfl).symm.trans hf) |>.symm
  obtain rfl : fn = Tryz.f4 := (Option.some.inj (Tryz.func4.symm.trans hfn)).symm
  refine ⟨by kernel_rfl, fun j t ht => ?_⟩
  rw [Tryz.params4] at ht
  have hm := Array.mem_of_getElem? ht
  simp only [List.mem_toArray, List.mem_cons, List.not_mem_nil, or_false] at hm
  rcases hm with rfl | rfl
  · exact (show Tryz.prog.wantsStandIn 44 = false by kernel_rfl)
  · exact (show Tryz.prog.wantsStandIn 3 = false by kernel_rfl)
theorem modelRuns_holds : Rows.ModelRunsCardSaid :=
  Claim7.holds_tied_plain_at .later [] _ _ _ _ modelRuns_said (fun _ h => by cases h) (by kernel_rfl) (fun _ h => by cases h) modelRuns_row_tie rfl ⟨rfl, rfl⟩ (by kernel_rfl) rfl modelRuns_plain (by kernel_rfl)
#print axioms modelRuns_holds
end Go.Proofs.YtgdmkpikkfakdaaGreatDoor
