/- The law cordwoodlaw16.ModelKept holds, as its card says it: whatever the input that can be read, the call returns true, and each argument reads as it read before; the table block.numbers is what the text lays. -/
import Derived.Test.YtgdmkpikkfakdaaGreatDoorBunModelKept
import Derived.Test.YtgdmkpikkfakdaaGreatDoorCards
import Derived.Test.YtgdmkpikkfakdaaGreatDoorTie
import Derived.WalkKit
import Derived.ProofKit
import Derived.OpenShut
import Derived.ShutString
import Derived.ChangeOld
import Derived.Below
import Derived.SizedLaws
import Derived.Deep.DeepHandedRow
import Derived.Lib.LaidTab
namespace Go.Proofs.YtgdmkpikkfakdaaGreatDoor
open Go.ChangeShapes Go.WideShapes Go.ChangeAt Go.RowKit
set_option linter.unusedVariables false
theorem run_modelkept (W : World) (hG : GlobOk (fun _ => False) noMu W) {v0 : Value} {x0 : List MOp} (s0 : Sl kOp W (fun _ => False) v0 x0) :
    Calls Tryz.prog 7 #[v0] W fun e W' => e = .returned (.bool true) ∧ Below W.heap.size W W' :=
  run_apure (vs := [v0]) (mkept_law x0 (olen_of s0)) hG (.cons (rv_ops s0) .nil)
theorem modelKept_own : ownKnob Tryz.prog.godebug = none := by kernel_rfl
theorem modelKept_laidOut : laidOutB Tryz.prog = true := by kernel_rfl
def modelKept_lay (cs : Array Value) : Obj → Obj
  | .cells _ t frozen => .cells cs t frozen
  | o => o
noncomputable def modelKept_world (os : Os) : World :=
  { World.holding Tryz.prog os ⟨#[], #[], []⟩ with heap := (((World.holding Tryz.prog os ⟨#[], #[], []⟩).heap.modify 0 (modelKept_lay (Lib.deBruijn32tab.map fun x : Nat => Value.int .u8 (x : Int)).toArray)).modify 1 (modelKept_lay (Lib.deBruijn64tab.map fun x : Nat => Value.int .u8 (x : Int)).toArray)).modify 2 (modelKept_lay (u32s nums)) }
theorem modelKept_met (os : Os) : laidMet Tryz.prog Rows.modelKeptRow.laid ((modelKept_world os).forCall (fun _ _ => 0) ⟨#[], #[.slice none 0 0], []⟩).memory :=
  laidMet_of_run' 8 (by kernel_rfl) (by kernel_rfl)
theorem modelKept_reads (os : Os) {H : Type} (enc : TypeId × Value → H) : ∃ places, DataW.whole enc Tryz.prog ((modelKept_world os).forCall (fun _ _ => 0) ⟨#[], #[.slice none 0 0], []⟩).memory Tryz.f7.params.toList Rows.modelKeptSpec.vars false (#[.slice none 0 0] : Array Value).toList 8 = some ([.nil], [], places) :=
  ⟨[], by kernel_rfl⟩
set_option maxRecDepth 100000 in
theorem modelKept_lifted (os : Os) (started : os.Started) (H : Type) (enc : TypeId × Value → H) (F : Stop.Interp) :
    ReturnsInHanded {} Tryz.checked os 7 .any ((OpenSpec.ofChange Rows.modelKeptSpec).preRow enc Tryz.prog Tryz.f7 Rows.modelKeptRow.domain false Rows.modelKeptRow.laid) (((OpenSpec.ofChange Rows.modelKeptSpec).at F).post enc Tryz.prog Tryz.f7 false true false false) := by
  obtain ⟨places, hx⟩ := modelKept_reads os enc
  refine returnsInHanded_of_row (C := Tryz.checked) (s := OpenSpec.ofChange Rows.modelKeptSpec) modelKept_own started (by kernel_rfl) Tryz.func7
    (witness_row_at (enc := enc) (C := Tryz.checked) false (modelKept_world os) #[.slice none 0 0] rfl (by kernel_rfl) (by kernel_rfl) (by kernel_rfl)
      (OpenSpec.preRow_of_cond 8 hx (by kernel_rfl) (fun k hk => by cases hk) (by kernel_rfl) (modelKept_met os))) ?_
  intro W base args ds gs before hval0 hW _ _ _ hL _ _
  have hG : GlobOk (fun _ => False) noMu W := glob_laid hL
  have hval : ∀ (j : Nat) t v, Tryz.f7.params[j]? = some t → args[j]? = some v → Value.okWide Tryz.prog W .any base t v := hval0
  have hW' := hW
  obtain ⟨p, q, hA0, hV, rfl, hfz, hnd⟩ := hW
  have hA : DataW.TrodAll enc Tryz.prog W 0 (fun _ => true) true Tryz.f7.params.toList args.toList ds p := hA0
  rw [Tryz.params7] at hA hval
  obtain ⟨v0, vs0, d0, ds0, p0, q0, hargs, rfl, rfl, h0, r0⟩ := trodAll_cons hA
  obtain ⟨rfl, rfl, rfl⟩ := trodAll_nil r0
  obtain rfl : args = #[v0] := by cases args; simp_all
  obtain ⟨rfl, rfl⟩ := trodVars_none hV
  obtain ⟨a0, len0, cap0, rfl⟩ := okWide_slice Tryz.underlying44 (hval 0 44 v0 rfl rfl)
  have lt0 : ∀ x ∈ p0, x.block < W.heap.size := by obtain ⟨m, hm⟩ := h0; exact DataW.trod_lt m _ _ _ hm
  obtain ⟨xs0, sl0⟩ := arg_sl opens_ops h0
  refine (run_modelkept W hG sl0).mono fun e W' ⟨he, bel⟩ => ?_
  subst he
  exact ⟨_, rfl, _, _, _, [], _, [], hW', trodAll_mk1 (shut_bool Tryz.underlying4 _), (trodAll_cons_mk (Below.trod modelKept_laidOut (by kernel_rfl) (of_decide_eq_true (by kernel_rfl)) h0 bel lt0) trodAll_mk0), rfl, bel.frame _, fun h => by cases h⟩
set_option maxRecDepth 100000
set_option maxHeartbeats 4000000 in
theorem modelKept_closed : joinedFacts Tryz.pinned.checked.prog 7 Tryz.f7 (OpenSpec.ofChange Rows.modelKeptSpec).bare Rows.modelKeptRow = true := by
  unfold joinedFacts
  repeat' (with_reducible refine andt ?_ ?_)
  all_goals as_aux_lemma => kernel_rfl
theorem modelKept_inst : Tryz.f7.isInstance Tryz.pinned.checked.prog Rows.modelKeptRow.origin Rows.modelKeptRow.targs := of_decide_eq_true (by kernel_rfl)
theorem modelKept_wrap : Tryz.f7.isWrapper Tryz.pinned.checked.prog Rows.modelKeptRow.wrapper Rows.modelKeptRow.mainSum := by unfold Func.isWrapper; first | (rw [if_pos (by decide +kernel)]; kernel_rfl) | (rw [if_neg (by decide +kernel)]; exact ⟨rfl, rfl⟩)
theorem modelKept_named : Tryz.pinned.checked.prog.funcNamed Rows.modelKeptRow.func = some 7 := by kernel_rfl
theorem modelKept_said : Rows.ModelKeptSaid :=
  OpenClaim.holds_of_cond 7 Tryz.f7 rfl rfl rfl rfl rfl rfl rfl ⟨rfl, rfl, rfl, rfl, rfl⟩ rfl rfl rfl rfl rfl modelKept_named Tryz.func7 modelKept_closed modelKept_inst modelKept_wrap
    (fun os started H enc _ F => by rw [OpenClaim.pre_eq_preRow]; exact modelKept_lifted os started H enc F)
theorem modelKept_plain (f : FuncId) (fn : Func) (hf : Tryz.pinned.checked.prog.funcNamed "cordwood/cordwoodlaw16.ModelKept" = some f) (hfn : Tryz.pinned.checked.prog.funcs[f]? = some fn) :
    false = Tryz.pinned.checked.prog.looks [] ∧ ∀ (j : Nat) t, fn.params[j]? = some t → Tryz.pinned.checked.prog.wantsStandIn t = false := by
  obtain rfl : f = 7 := Option.some.inj ((show Tryz.prog.funcNamed "cordwood/cordwoodlaw16.ModelKept" = some 7 by kernel_rfl).symm.trans hf) |>.symm
  obtain rfl : fn = Tryz.f7 := (Option.some.inj (Tryz.func7.symm.trans hfn)).symm
  refine ⟨by kernel_rfl, fun j t ht => ?_⟩
  rw [Tryz.params7] at ht
  have hm := Array.mem_of_getElem? ht
  simp only [List.mem_toArray, List.mem_cons, List.not_mem_nil, or_false] at hm
  rcases hm with rfl
  · exact (show Tryz.prog.wantsStandIn 44 = false by kernel_rfl)
theorem modelKept_holds : Rows.ModelKeptCardSaid :=
  Claim7.holds_tied_plain_at .later [] _ _ _ _ modelKept_said (fun _ h => by cases h) (by kernel_rfl) (fun _ h => by cases h) modelKept_row_tie rfl ⟨rfl, rfl⟩ (by kernel_rfl) rfl modelKept_plain (by kernel_rfl)
#print axioms modelKept_holds
end Go.Proofs.YtgdmkpikkfakdaaGreatDoor
