/- The law cordwoodlaw03.BlockUndo holds, as its card says it: whatever the input that can be read, the call returns true, and each argument reads as it read before; the table block.numbers is what the text lays. -/
import Derived.Test.YthcoccoanpmhgaaDoorCards
import Derived.Test.YthcoccoanpmhgaaDoorTie
import Derived.Test.YthcoccoanpmhgaaDoorBlkLaw2
import Derived.Test.YthcoccoanpmhgaaDoorOpenArr
import Derived.WalkKit
import Derived.ProofKit
import Derived.OpenShut
import Derived.ShutString
import Derived.ChangeOld
import Derived.Below
import Derived.SizedLaws
import Derived.Deep.DeepHandedRow
import Derived.Lib.LaidTab
namespace Go.Proofs.YthcoccoanpmhgaaDoor
open Go.ChangeShapes Go.WideShapes Go.ChangeAt Go.RowKit
set_option linter.unusedVariables false
theorem blockUndo_own : ownKnob Tryd.prog.godebug = none := by kernel_rfl
theorem blockUndo_laidOut : laidOutB Tryd.prog = true := by kernel_rfl
noncomputable def blockUndo_world (os : Os) : World :=
  { World.holding Tryd.prog os ⟨#[], #[], []⟩ with heap := (World.holding Tryd.prog os ⟨#[], #[], []⟩).heap.modify 0 fun
      | .cells _ t frozen => .cells (u32s nums) t frozen
      | o => o }
theorem blockUndo_met (os : Os) : laidMet Tryd.prog Rows.blockUndoRow.laid ((blockUndo_world os).forCall (fun _ _ => 0) ⟨#[], #[.agg (u32s (List.replicate 8 0)), .int .i64 0, .int .u32 0, .agg (u8s (List.replicate 64 0))], []⟩).memory :=
  laidMet_of_run' 8 (by kernel_rfl) (by kernel_rfl)
theorem blockUndo_reads (os : Os) {H : Type} (enc : TypeId × Value → H) : ∃ places, DataW.whole enc Tryd.prog ((blockUndo_world os).forCall (fun _ _ => 0) ⟨#[], #[.agg (u32s (List.replicate 8 0)), .int .i64 0, .int .u32 0, .agg (u8s (List.replicate 64 0))], []⟩).memory Tryd.f5.params.toList Rows.blockUndoSpec.vars false (#[.agg (u32s (List.replicate 8 0)), .int .i64 0, .int .u32 0, .agg (u8s (List.replicate 64 0))] : Array Value).toList 8 = some ([.agg (List.replicate 8 (.lit (.int .u32 0))), .lit (.int .i64 0), .lit (.int .u32 0), .agg (List.replicate 64 (.lit (.int .u8 0)))], [], places) :=
  ⟨[], by kernel_rfl⟩
set_option maxRecDepth 100000 in
theorem blockUndo_lifted (os : Os) (started : os.Started) (H : Type) (enc : TypeId × Value → H) (F : Stop.Interp) :
    ReturnsInHanded {} Tryd.checked os 5 .any ((OpenSpec.ofChange Rows.blockUndoSpec).preRow enc Tryd.prog Tryd.f5 Rows.blockUndoRow.domain false Rows.blockUndoRow.laid) (((OpenSpec.ofChange Rows.blockUndoSpec).at F).post enc Tryd.prog Tryd.f5 false true false false) := by
  obtain ⟨places, hx⟩ := blockUndo_reads os enc
  refine returnsInHanded_of_row (C := Tryd.checked) (s := OpenSpec.ofChange Rows.blockUndoSpec) blockUndo_own started (by kernel_rfl) Tryd.func5
    (witness_row_at (enc := enc) (C := Tryd.checked) false (blockUndo_world os) #[.agg (u32s (List.replicate 8 0)), .int .i64 0, .int .u32 0, .agg (u8s (List.replicate 64 0))] rfl (by kernel_rfl) (by kernel_rfl) (by kernel_rfl)
      (OpenSpec.preRow_of_cond 8 hx (by kernel_rfl) (fun k hk => by cases hk) (by kernel_rfl) (blockUndo_met os))) ?_
  intro W base args ds gs before hval0 hW _ _ _ hL _ _
  have hT : Tab W := tab_of hL
  have hval : ∀ (j : Nat) t v, Tryd.f5.params[j]? = some t → args[j]? = some v → Value.okWide Tryd.prog W .any base t v := hval0
  have hW' := hW
  obtain ⟨p, q, hA0, hV, rfl, hfz, hnd⟩ := hW
  have hA : DataW.TrodAll enc Tryd.prog W 0 (fun _ => true) true Tryd.f5.params.toList args.toList ds p := hA0
  rw [Tryd.params5] at hA hval
  obtain ⟨v0, vs0, d0, ds0, p0, q0, hargs, rfl, rfl, h0, r0⟩ := trodAll_cons hA
  obtain ⟨v1, vs1, d1, ds1, p1, q1, rfl, rfl, rfl, h1, r1⟩ := trodAll_cons r0
  obtain ⟨v2, vs2, d2, ds2, p2, q2, rfl, rfl, rfl, h2, r2⟩ := trodAll_cons r1
  obtain ⟨v3, vs3, d3, ds3, p3, q3, rfl, rfl, rfl, h3, r3⟩ := trodAll_cons r2
  obtain ⟨rfl, rfl, rfl⟩ := trodAll_nil r3
  obtain rfl : args = #[v0, v1, v2, v3] := by cases args; simp_all
  obtain ⟨rfl, rfl⟩ := trodVars_none hV
  have lt0 : ∀ x ∈ p0, x.block < W.heap.size := by obtain ⟨m, hm⟩ := h0; exact DataW.trod_lt m _ _ _ hm
  obtain ⟨xs0, rfl, hl0⟩ := arg_arr (fun x => Value.int .u32 (wv x)) (num_u32 und_u32) (by kernel_rfl) (by kernel_rfl) (by kernel_rfl) (hval 0 23 v0 rfl rfl) h0
  obtain ⟨a1, rfl, rfl, rfl, w1⟩ := open_int Tryd.underlying3 (hval 1 3 v1 rfl rfl) h1
  obtain ⟨a2, rfl, rfl, rfl, w2⟩ := open_int Tryd.underlying22 (hval 2 22 v2 rfl rfl) h2
  have lt3 : ∀ x ∈ p3, x.block < W.heap.size := by obtain ⟨m, hm⟩ := h3; exact DataW.trod_lt m _ _ _ hm
  obtain ⟨xs3, rfl, hl3⟩ := arg_arr (fun x : UInt8 => Value.int .u8 x.toNat) (num_u8 und_u8) (by kernel_rfl) (by kernel_rfl) (by kernel_rfl) (hval 3 24 v3 rfl rfl) h3
  refine (run_undo W hT hl0 w1 w2 hl3).mono fun e W' ⟨he, bel⟩ => ?_
  subst he
  exact ⟨_, rfl, _, _, _, [], _, [], hW', trodAll_mk1 (shut_bool Tryd.underlying4 _), (trodAll_cons_mk (Below.trod blockUndo_laidOut (by kernel_rfl) (of_decide_eq_true (by kernel_rfl)) h0 bel lt0) (trodAll_cons_mk (shut_int Tryd.underlying3 w1) (trodAll_cons_mk (shut_int Tryd.underlying22 w2) (trodAll_cons_mk (Below.trod blockUndo_laidOut (by kernel_rfl) (of_decide_eq_true (by kernel_rfl)) h3 bel lt3) trodAll_mk0)))), rfl, bel.frame _, fun h => by cases h⟩
theorem blockUndo_said : Rows.BlockUndoSaid :=
  OpenClaim.holds_of_cond 5 Tryd.f5 rfl rfl rfl rfl rfl rfl rfl ⟨rfl, rfl, rfl, rfl, rfl⟩ rfl rfl rfl rfl rfl (by kernel_rfl) Tryd.func5 (by kernel_rfl)
    (of_decide_eq_true (by kernel_rfl)) (by unfold Func.isWrapper; first | (rw [if_pos (by decide +kernel)]; kernel_rfl) | (rw [if_neg (by decide +kernel)]; exact ⟨rfl, rfl⟩))
    (fun os started H enc _ F => by rw [OpenClaim.pre_eq_preRow]; exact blockUndo_lifted os started H enc F)
theorem blockUndo_plain (f : FuncId) (fn : Func) (hf : Tryd.pinned.checked.prog.funcNamed "cordwood/cordwoodlaw03.BlockUndo" = some f) (hfn : Tryd.pinned.checked.prog.funcs[f]? = some fn) :
    false = Tryd.pinned.checked.prog.looks [] ∧ ∀ (j : Nat) t, fn.params[j]? = some t → Tryd.pinned.checked.prog.wantsStandIn t = false := by
  obtain rfl : f = 5 := Option.some.inj ((show Tryd.prog.funcNamed "cordwood/cordwoodlaw03.BlockUndo" = some 5 by kernel_rfl).symm.trans hf) |>.symm
  obtain rfl : fn = Tryd.f5 := (Option.some.inj (Tryd.func5.symm.trans hfn)).symm
  refine ⟨by kernel_rfl, fun j t ht => ?_⟩
  rw [Tryd.params5] at ht
  have hm := Array.mem_of_getElem? ht
  simp only [List.mem_toArray, List.mem_cons, List.not_mem_nil, or_false] at hm
  rcases hm with rfl | rfl | rfl | rfl
  · exact (show Tryd.prog.wantsStandIn 23 = false by kernel_rfl)
  · exact (show Tryd.prog.wantsStandIn 3 = false by kernel_rfl)
  · exact (show Tryd.prog.wantsStandIn 22 = false by kernel_rfl)
  · exact (show Tryd.prog.wantsStandIn 24 = false by kernel_rfl)
theorem blockUndo_holds : Rows.BlockUndoCardSaid :=
  Claim7.holds_tied_plain_at .later [] _ _ _ _ blockUndo_said (fun _ h => by cases h) (by kernel_rfl) (fun _ h => by cases h) blockUndo_row_tie rfl ⟨rfl, rfl⟩ (by kernel_rfl) rfl blockUndo_plain (by kernel_rfl)
#print axioms blockUndo_holds
end Go.Proofs.YthcoccoanpmhgaaDoor
