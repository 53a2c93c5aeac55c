/- The law cordwoodlaw03.BlockSpread holds, as its card says it: whatever the input that can be read, the call returns true, and each argument reads as it read before; the table block.numbers is what the text lays. -/
import Derived.Test.YthcoccoanpmhgaaDoorCards
import Derived.Test.YthcoccoanpmhgaaDoorTie
import Derived.Test.YthcoccoanpmhgaaDoorBlkLaw5
import Derived.Test.YthcoccoanpmhgaaDoorOpenArr
import Derived.WalkKit
import Derived.ProofKit
import Derived.OpenShut
import Derived.ShutString
import Derived.ChangeOld
import Derived.Below
import Derived.SizedLaws
import Derived.Deep.DeepHandedRow
import Derived.Lib.LaidTab
namespace Go.Proofs.YthcoccoanpmhgaaDoor
open Go.ChangeShapes Go.WideShapes Go.ChangeAt Go.RowKit
set_option linter.unusedVariables false
theorem run_blockspread (W : World) (hT : TabB W) {l0 : List UInt8} (hl0 : l0.length = 64) :
    Calls Tryd.prog 4 #[.agg (b8s l0)] W fun e W' => e = .returned (.bool true) ∧ Below W.heap.size W W' :=
  run_apure (vs := [.agg (b8s l0)]) (bspread_law l0 hl0) (glob_of hT) (.cons (b8s_arr hl0) .nil)
theorem blockSpread_own : ownKnob Tryd.prog.godebug = none := by kernel_rfl
theorem blockSpread_laidOut : laidOutB Tryd.prog = true := by kernel_rfl
noncomputable def blockSpread_world (os : Os) : World :=
  { World.holding Tryd.prog os ⟨#[], #[], []⟩ with heap := (World.holding Tryd.prog os ⟨#[], #[], []⟩).heap.modify 0 fun
      | .cells _ t frozen => .cells (u32s nums) t frozen
      | o => o }
theorem blockSpread_met (os : Os) : laidMet Tryd.prog Rows.blockSpreadRow.laid ((blockSpread_world os).forCall (fun _ _ => 0) ⟨#[], #[.agg (b8s (List.replicate 64 0))], []⟩).memory :=
  laidMet_of_run' 8 (by kernel_rfl) (by kernel_rfl)
theorem blockSpread_reads (os : Os) {H : Type} (enc : TypeId × Value → H) : ∃ places, DataW.whole enc Tryd.prog ((blockSpread_world os).forCall (fun _ _ => 0) ⟨#[], #[.agg (b8s (List.replicate 64 0))], []⟩).memory Tryd.f4.params.toList Rows.blockSpreadSpec.vars false (#[.agg (b8s (List.replicate 64 0))] : Array Value).toList 8 = some ([.agg (List.replicate 64 (.lit (.int .u8 0)))], [], places) :=
  ⟨[], by kernel_rfl⟩
set_option maxRecDepth 100000 in
theorem blockSpread_lifted (os : Os) (started : os.Started) (H : Type) (enc : TypeId × Value → H) (F : Stop.Interp) :
    ReturnsInHanded {} Tryd.checked os 4 .any ((OpenSpec.ofChange Rows.blockSpreadSpec).preRow enc Tryd.prog Tryd.f4 Rows.blockSpreadRow.domain false Rows.blockSpreadRow.laid) (((OpenSpec.ofChange Rows.blockSpreadSpec).at F).post enc Tryd.prog Tryd.f4 false true false false) := by
  obtain ⟨places, hx⟩ := blockSpread_reads os enc
  refine returnsInHanded_of_row (C := Tryd.checked) (s := OpenSpec.ofChange Rows.blockSpreadSpec) blockSpread_own started (by kernel_rfl) Tryd.func4
    (witness_row_at (enc := enc) (C := Tryd.checked) false (blockSpread_world os) #[.agg (b8s (List.replicate 64 0))] rfl (by kernel_rfl) (by kernel_rfl) (by kernel_rfl)
      (OpenSpec.preRow_of_cond 8 hx (by kernel_rfl) (fun k hk => by cases hk) (by kernel_rfl) (blockSpread_met os))) ?_
  intro W base args ds gs before hval0 hW _ _ _ hL _ _
  have hT : TabB W := tab_of hL
  have hval : ∀ (j : Nat) t v, Tryd.f4.params[j]? = some t → args[j]? = some v → Value.okWide Tryd.prog W .any base t v := hval0
  have hW' := hW
  obtain ⟨p, q, hA0, hV, rfl, hfz, hnd⟩ := hW
  have hA : DataW.TrodAll enc Tryd.prog W 0 (fun _ => true) true Tryd.f4.params.toList args.toList ds p := hA0
  rw [Tryd.params4] at hA hval
  obtain ⟨v0, vs0, d0, ds0, p0, q0, hargs, rfl, rfl, h0, r0⟩ := trodAll_cons hA
  obtain ⟨rfl, rfl, rfl⟩ := trodAll_nil r0
  obtain rfl : args = #[v0] := by cases args; simp_all
  obtain ⟨rfl, rfl⟩ := trodVars_none hV
  have lt0 : ∀ x ∈ p0, x.block < W.heap.size := by obtain ⟨m, hm⟩ := h0; exact DataW.trod_lt m _ _ _ hm
  obtain ⟨xs0, rfl, hl0⟩ := arg_arr (fun x : UInt8 => Value.int .u8 x.toNat) (num_u8 und_u8) (by kernel_rfl) (by kernel_rfl) (by kernel_rfl) (hval 0 24 v0 rfl rfl) h0
  refine (run_blockspread W hT hl0).mono fun e W' ⟨he, bel⟩ => ?_
  subst he
  exact ⟨_, rfl, _, _, _, [], _, [], hW', trodAll_mk1 (shut_bool Tryd.underlying4 _), (trodAll_cons_mk (Below.trod blockSpread_laidOut (by kernel_rfl) (of_decide_eq_true (by kernel_rfl)) h0 bel lt0) trodAll_mk0), rfl, bel.frame _, fun h => by cases h⟩
theorem blockSpread_said : Rows.BlockSpreadSaid :=
  OpenClaim.holds_of_cond 4 Tryd.f4 rfl rfl rfl rfl rfl rfl rfl ⟨rfl, rfl, rfl, rfl, rfl⟩ rfl rfl rfl rfl rfl (by kernel_rfl) Tryd.func4 (by kernel_rfl)
    (of_decide_eq_true (by kernel_rfl)) (by unfold Func.isWrapper; first | (rw [if_pos (by decide +kernel)]; kernel_rfl) | (rw [if_neg (by decide +kernel)]; exact ⟨rfl, rfl⟩))
    (fun os started H enc _ F => by rw [OpenClaim.pre_eq_preRow]; exact blockSpread_lifted os started H enc F)
theorem blockSpread_plain (f : FuncId) (fn : Func) (hf : Tryd.pinned.checked.prog.funcNamed "cordwood/cordwoodlaw03.BlockSpread" = some f) (hfn : Tryd.pinned.checked.prog.funcs[f]? = some fn) :
    false = Tryd.pinned.checked.prog.looks [] ∧ ∀ (j : Nat) t, fn.params[j]? = some t → Tryd.pinned.checked.prog.wantsStandIn t = false := by
  obtain rfl : f = 4 := Option.some.inj ((show Tryd.prog.funcNamed "cordwood/cordwoodlaw03.BlockSpread" = some 4 by kernel_rfl).symm.trans hf) |>.symm
  obtain rfl : fn = Tryd.f4 := (Option.some.inj (Tryd.func4.symm.trans hfn)).symm
  refine ⟨by kernel_rfl, fun j t ht => ?_⟩
  rw [Tryd.params4] at ht
  have hm := Array.mem_of_getElem? ht
  simp only [List.mem_toArray, List.mem_cons, List.not_mem_nil, or_false] at hm
  rcases hm with rfl
  · exact (show Tryd.prog.wantsStandIn 24 = false by kernel_rfl)
theorem blockSpread_holds : Rows.BlockSpreadCardSaid :=
  Claim7.holds_tied_plain_at .later [] _ _ _ _ blockSpread_said (fun _ h => by cases h) (by kernel_rfl) (fun _ h => by cases h) blockSpread_row_tie rfl ⟨rfl, rfl⟩ (by kernel_rfl) rfl blockSpread_plain (by kernel_rfl)
#print axioms blockSpread_holds
end Go.Proofs.YthcoccoanpmhgaaDoor
