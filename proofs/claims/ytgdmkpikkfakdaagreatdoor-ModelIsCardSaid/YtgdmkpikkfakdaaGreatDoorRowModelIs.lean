/- The law cordwoodlaw16.ModelIs holds, as its card says it: whatever the input that can be read, the call returns true, and each argument reads as it read before; the table block.numbers is what the text lays. -/
import Derived.Test.YtgdmkpikkfakdaaGreatDoorBunModel6
import Derived.Test.YtgdmkpikkfakdaaGreatDoorCards
import Derived.Test.YtgdmkpikkfakdaaGreatDoorTie
import Derived.WalkKit
import Derived.ProofKit
import Derived.OpenShut
import Derived.ShutString
import Derived.ChangeOld
import Derived.Below
import Derived.SizedLaws
import Derived.Deep.DeepHandedRow
import Derived.Lib.LaidTab
namespace Go.Proofs.YtgdmkpikkfakdaaGreatDoor
open Go.ChangeShapes Go.WideShapes Go.ChangeAt Go.RowKit
set_option linter.unusedVariables false
theorem run_modelis (W : World) (hG : GlobOk (fun _ => False) noMu W) {c0 : Array Value} {x0 : MSt} (s0 : Kd.rel kSt W (fun _ => False) x0 c0.toList) {c1 : Array Value} {x1 : MOp} (s1 : Kd.rel kOp W (fun _ => False) x1 c1.toList) :
    Calls Tryz.prog 3 #[.agg c0, .agg c1] W fun e W' => e = .returned (.bool true) ∧ Below W.heap.size W W' :=
  run_apure (vs := [.agg c0, .agg c1]) (mis_law x0 x1 (fok_of s0) (keys_of s1)) hG (.cons (rv_st s0) (.cons (rv_op s1) .nil))
theorem modelIs_own : ownKnob Tryz.prog.godebug = none := by kernel_rfl
theorem modelIs_laidOut : laidOutB Tryz.prog = true := by kernel_rfl
def modelIs_lay (cs : Array Value) : Obj → Obj
  | .cells _ t frozen => .cells cs t frozen
  | o => o
noncomputable def modelIs_world (os : Os) : World :=
  { World.holding Tryz.prog os ⟨#[], #[], []⟩ with heap := (((World.holding Tryz.prog os ⟨#[], #[], []⟩).heap.modify 0 (modelIs_lay (Lib.deBruijn32tab.map fun x : Nat => Value.int .u8 (x : Int)).toArray)).modify 1 (modelIs_lay (Lib.deBruijn64tab.map fun x : Nat => Value.int .u8 (x : Int)).toArray)).modify 2 (modelIs_lay (u32s nums)) }
theorem modelIs_met (os : Os) : laidMet Tryz.prog Rows.modelIsRow.laid ((modelIs_world os).forCall (fun _ _ => 0) ⟨#[], #[.agg #[.slice none 0 0, .slice none 0 0, .int .i64 0], .agg #[.int .i64 0, .int .i64 0, .slice none 0 0, .slice none 0 0, .int .i64 0, .slice none 0 0, .slice none 0 0, .slice none 0 0, .int .i64 0]], []⟩).memory :=
  laidMet_of_run' 8 (by kernel_rfl) (by kernel_rfl)
theorem modelIs_reads (os : Os) {H : Type} (enc : TypeId × Value → H) : ∃ places, DataW.whole enc Tryz.prog ((modelIs_world os).forCall (fun _ _ => 0) ⟨#[], #[.agg #[.slice none 0 0, .slice none 0 0, .int .i64 0], .agg #[.int .i64 0, .int .i64 0, .slice none 0 0, .slice none 0 0, .int .i64 0, .slice none 0 0, .slice none 0 0, .slice none 0 0, .int .i64 0]], []⟩).memory Tryz.f3.params.toList Rows.modelIsSpec.vars false (#[.agg #[.slice none 0 0, .slice none 0 0, .int .i64 0], .agg #[.int .i64 0, .int .i64 0, .slice none 0 0, .slice none 0 0, .int .i64 0, .slice none 0 0, .slice none 0 0, .slice none 0 0, .int .i64 0]] : Array Value).toList 8 = some ([.agg [.nil, .nil, .lit (.int .i64 0)], .agg [.lit (.int .i64 0), .lit (.int .i64 0), .agg [.nil, .nil, .lit (.int .i64 0), .nil], .nil, .nil, .lit (.int .i64 0)]], [], places) :=
  ⟨[], by kernel_rfl⟩
set_option maxRecDepth 100000 in
theorem modelIs_lifted (os : Os) (started : os.Started) (H : Type) (enc : TypeId × Value → H) (F : Stop.Interp) :
    ReturnsInHanded {} Tryz.checked os 3 .any ((OpenSpec.ofChange Rows.modelIsSpec).preRow enc Tryz.prog Tryz.f3 Rows.modelIsRow.domain false Rows.modelIsRow.laid) (((OpenSpec.ofChange Rows.modelIsSpec).at F).post enc Tryz.prog Tryz.f3 false true false false) := by
  obtain ⟨places, hx⟩ := modelIs_reads os enc
  refine returnsInHanded_of_row (C := Tryz.checked) (s := OpenSpec.ofChange Rows.modelIsSpec) modelIs_own started (by kernel_rfl) Tryz.func3
    (witness_row_at (enc := enc) (C := Tryz.checked) false (modelIs_world os) #[.agg #[.slice none 0 0, .slice none 0 0, .int .i64 0], .agg #[.int .i64 0, .int .i64 0, .slice none 0 0, .slice none 0 0, .int .i64 0, .slice none 0 0, .slice none 0 0, .slice none 0 0, .int .i64 0]] rfl (by kernel_rfl) (by kernel_rfl) (by kernel_rfl)
      (OpenSpec.preRow_of_cond 8 hx (by kernel_rfl) (fun k hk => by cases hk) (by kernel_rfl) (modelIs_met os))) ?_
  intro W base args ds gs before hval0 hW _ _ _ hL _ _
  have hG : GlobOk (fun _ => False) noMu W := glob_laid hL
  have hval : ∀ (j : Nat) t v, Tryz.f3.params[j]? = some t → args[j]? = some v → Value.okWide Tryz.prog W .any base t v := hval0
  have hW' := hW
  obtain ⟨p, q, hA0, hV, rfl, hfz, hnd⟩ := hW
  have hA : DataW.TrodAll enc Tryz.prog W 0 (fun _ => true) true Tryz.f3.params.toList args.toList ds p := hA0
  rw [Tryz.params3] at hA hval
  obtain ⟨v0, vs0, d0, ds0, p0, q0, hargs, rfl, rfl, h0, r0⟩ := trodAll_cons hA
  obtain ⟨v1, vs1, d1, ds1, p1, q1, rfl, rfl, rfl, h1, r1⟩ := trodAll_cons r0
  obtain ⟨rfl, rfl, rfl⟩ := trodAll_nil r1
  obtain rfl : args = #[v0, v1] := by cases args; simp_all
  obtain ⟨rfl, rfl⟩ := trodVars_none hV
  have lt0 : ∀ x ∈ p0, x.block < W.heap.size := by obtain ⟨m, hm⟩ := h0; exact DataW.trod_lt m _ _ _ hm
  obtain ⟨xs0, cs0, rfl, sl0⟩ := arg_agg Tryz.underlying25 opens_st (hval 0 25 v0 rfl rfl) h0
  have lt1 : ∀ x ∈ p1, x.block < W.heap.size := by obtain ⟨m, hm⟩ := h1; exact DataW.trod_lt m _ _ _ hm
  obtain ⟨xs1, cs1, rfl, sl1⟩ := arg_agg Tryz.underlying31 opens_op (hval 1 31 v1 rfl rfl) h1
  refine (run_modelis W hG sl0 sl1).mono fun e W' ⟨he, bel⟩ => ?_
  subst he
  exact ⟨_, rfl, _, _, _, [], _, [], hW', trodAll_mk1 (shut_bool Tryz.underlying4 _), (trodAll_cons_mk (Below.trod modelIs_laidOut (by kernel_rfl) (of_decide_eq_true (by kernel_rfl)) h0 bel lt0) (trodAll_cons_mk (Below.trod modelIs_laidOut (by kernel_rfl) (of_decide_eq_true (by kernel_rfl)) h1 bel lt1) trodAll_mk0)), rfl, bel.frame _, fun h => by cases h⟩
set_option maxRecDepth 100000
set_option maxHeartbeats 4000000 in
theorem modelIs_closed : joinedFacts Tryz.pinned.checked.prog 3 Tryz.f3 (OpenSpec.ofChange Rows.modelIsSpec).bare Rows.modelIsRow = true := by
  unfold joinedFacts
  repeat' (with_reducible refine andt ?_ ?_)
  all_goals as_aux_lemma => kernel_rfl
theorem modelIs_inst : Tryz.f3.isInstance Tryz.pinned.checked.prog Rows.modelIsRow.origin Rows.modelIsRow.targs := of_decide_eq_true (by kernel_rfl)
theorem modelIs_wrap : Tryz.f3.isWrapper Tryz.pinned.checked.prog Rows.modelIsRow.wrapper Rows.modelIsRow.mainSum := by unfold Func.isWrapper; first | (rw [if_pos (by decide +kernel)]; kernel_rfl) | (rw [if_neg (by decide +kernel)]; exact ⟨rfl, rfl⟩)
theorem modelIs_named : Tryz.pinned.checked.prog.funcNamed Rows.modelIsRow.func = some 3 := by kernel_rfl
theorem modelIs_said : Rows.ModelIsSaid :=
  OpenClaim.holds_of_cond 3 Tryz.f3 rfl rfl rfl rfl rfl rfl rfl ⟨rfl, rfl, rfl, rfl, rfl⟩ rfl rfl rfl rfl rfl modelIs_named Tryz.func3 modelIs_closed modelIs_inst modelIs_wrap
    (fun os started H enc _ F => by rw [OpenClaim.pre_eq_preRow]; exact modelIs_lifted os started H enc F)
theorem modelIs_plain (f : FuncId) (fn : Func) (hf : Tryz.pinned.checked.prog.funcNamed "cordwood/cordwoodlaw16.ModelIs" = some f) (hfn : Tryz.pinned.checked.prog.funcs[f]? = some fn) :
    false = Tryz.pinned.checked.prog.looks [] ∧ ∀ (j : Nat) t, fn.params[j]? = some t → Tryz.pinned.checked.prog.wantsStandIn t = false := by
  obtain rfl : f = 3 := Option.some.inj ((show Tryz.prog.funcNamed "cordwood/cordwoodlaw16.ModelIs" = some 3 by kernel_rfl).symm.trans hf) |>.symm
  obtain rfl : fn = Tryz.f3 := (Option.some.inj (Tryz.func3.symm.trans hfn)).symm
  refine ⟨by kernel_rfl, fun j t ht => ?_⟩
  rw [Tryz.params3] at ht
  have hm := Array.mem_of_getElem? ht
  simp only [List.mem_toArray, List.mem_cons, List.not_mem_nil, or_false] at hm
  rcases hm with rfl | rfl
  · exact (show Tryz.prog.wantsStandIn 25 = false by kernel_rfl)
  · exact (show Tryz.prog.wantsStandIn 31 = false by kernel_rfl)
theorem modelIs_holds : Rows.ModelIsCardSaid :=
  Claim7.holds_tied_plain_at .later [] _ _ _ _ modelIs_said (fun _ h => by cases h) (by kernel_rfl) (fun _ h => by cases h) modelIs_row_tie rfl ⟨rfl, rfl⟩ (by kernel_rfl) rfl modelIs_plain (by kernel_rfl)
#print axioms modelIs_holds
end Go.Proofs.YtgdmkpikkfakdaaGreatDoor
