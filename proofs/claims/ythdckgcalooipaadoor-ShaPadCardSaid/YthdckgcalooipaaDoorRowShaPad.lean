/- The law cordwoodlaw04.ShaPad holds, as its card says it: whatever the input that can be read, the call returns true, and each argument reads as it read before; the table block.numbers is what the text lays. -/
import Derived.Test.YthdckgcalooipaaDoorBunShaPad4
import Derived.Test.YthdckgcalooipaaDoorCards
import Derived.Test.YthdckgcalooipaaDoorTie
import Derived.WalkKit
import Derived.ProofKit
import Derived.OpenShut
import Derived.ShutString
import Derived.ChangeOld
import Derived.Below
import Derived.SizedLaws
import Derived.Deep.DeepHandedRow
import Derived.Lib.LaidTab
namespace Go.Proofs.YthdckgcalooipaaDoor
open Go.ChangeShapes Go.WideShapes Go.ChangeAt Go.RowKit
set_option linter.unusedVariables false
theorem run_shapad (W : World) (hT : TabB W) {n0 : Int} (w0 : (Lit.int .i64 n0).wf = true) :
    Calls Tryd.prog 5 #[.int .i64 n0] W fun e W' => e = .returned (.bool true) ∧ Below W.heap.size W W' :=
  run_apure (vs := [.int .i64 n0]) (shapad_law n0) (glob_of hT) (.cons (.lit _) .nil)
theorem shaPad_own : ownKnob Tryd.prog.godebug = none := by kernel_rfl
theorem shaPad_laidOut : laidOutB Tryd.prog = true := by kernel_rfl
noncomputable def shaPad_world (os : Os) : World :=
  { World.holding Tryd.prog os ⟨#[], #[], []⟩ with heap := (World.holding Tryd.prog os ⟨#[], #[], []⟩).heap.modify 0 fun
      | .cells _ t frozen => .cells (u32s nums) t frozen
      | o => o }
theorem shaPad_met (os : Os) : laidMet Tryd.prog Rows.shaPadRow.laid ((shaPad_world os).forCall (fun _ _ => 0) ⟨#[], #[.int .i64 0], []⟩).memory :=
  laidMet_of_run' 8 (by kernel_rfl) (by kernel_rfl)
theorem shaPad_reads (os : Os) {H : Type} (enc : TypeId × Value → H) : ∃ places, DataW.whole enc Tryd.prog ((shaPad_world os).forCall (fun _ _ => 0) ⟨#[], #[.int .i64 0], []⟩).memory Tryd.f5.params.toList Rows.shaPadSpec.vars false (#[.int .i64 0] : Array Value).toList 8 = some ([.lit (.int .i64 0)], [], places) :=
  ⟨[], by kernel_rfl⟩
set_option maxRecDepth 100000 in
theorem shaPad_lifted (os : Os) (started : os.Started) (H : Type) (enc : TypeId × Value → H) (F : Stop.Interp) :
    ReturnsInHanded {} Tryd.checked os 5 .any ((OpenSpec.ofChange Rows.shaPadSpec).preRow enc Tryd.prog Tryd.f5 Rows.shaPadRow.domain false Rows.shaPadRow.laid) (((OpenSpec.ofChange Rows.shaPadSpec).at F).post enc Tryd.prog Tryd.f5 false true false false) := by
  obtain ⟨places, hx⟩ := shaPad_reads os enc
  refine returnsInHanded_of_row (C := Tryd.checked) (s := OpenSpec.ofChange Rows.shaPadSpec) shaPad_own started (by kernel_rfl) Tryd.func5
    (witness_row_at (enc := enc) (C := Tryd.checked) false (shaPad_world os) #[.int .i64 0] rfl (by kernel_rfl) (by kernel_rfl) (by kernel_rfl)
      (OpenSpec.preRow_of_cond 8 hx (by kernel_rfl) (fun k hk => by cases hk) (by kernel_rfl) (shaPad_met os))) ?_
  intro W base args ds gs before hval0 hW _ _ _ hL _ _
  have hT : TabB W := tab_of hL
  have hval : ∀ (j : Nat) t v, Tryd.f5.params[j]? = some t → args[j]? = some v → Value.okWide Tryd.prog W .any base t v := hval0
  have hW' := hW
  obtain ⟨p, q, hA0, hV, rfl, hfz, hnd⟩ := hW
  have hA : DataW.TrodAll enc Tryd.prog W 0 (fun _ => true) true Tryd.f5.params.toList args.toList ds p := hA0
  rw [Tryd.params5] at hA hval
  obtain ⟨v0, vs0, d0, ds0, p0, q0, hargs, rfl, rfl, h0, r0⟩ := trodAll_cons hA
  obtain ⟨rfl, rfl, rfl⟩ := trodAll_nil r0
  obtain rfl : args = #[v0] := by cases args; simp_all
  obtain ⟨rfl, rfl⟩ := trodVars_none hV
  obtain ⟨a0, rfl, rfl, rfl, w0⟩ := open_int Tryd.underlying3 (hval 0 3 v0 rfl rfl) h0
  refine (run_shapad W hT w0).mono fun e W' ⟨he, bel⟩ => ?_
  subst he
  exact ⟨_, rfl, _, _, _, [], _, [], hW', trodAll_mk1 (shut_bool Tryd.underlying4 _), (trodAll_cons_mk (shut_int Tryd.underlying3 w0) trodAll_mk0), rfl, bel.frame _, fun h => by cases h⟩
theorem shaPad_said : Rows.ShaPadSaid :=
  OpenClaim.holds_of_cond 5 Tryd.f5 rfl rfl rfl rfl rfl rfl rfl ⟨rfl, rfl, rfl, rfl, rfl⟩ rfl rfl rfl rfl rfl (by kernel_rfl) Tryd.func5 (by kernel_rfl)
    (of_decide_eq_true (by kernel_rfl)) (by unfold Func.isWrapper; first | (rw [if_pos (by decide +kernel)]; kernel_rfl) | (rw [if_neg (by decide +kernel)]; exact ⟨rfl, rfl⟩))
    (fun os started H enc _ F => by rw [OpenClaim.pre_eq_preRow]; exact shaPad_lifted os started H enc F)
theorem shaPad_plain (f : FuncId) (fn : Func) (hf : Tryd.pinned.checked.prog.funcNamed "cordwood/cordwoodlaw04.ShaPad" = some f) (hfn : Tryd.pinned.checked.prog.funcs[f]? = some fn) :
    false = Tryd.pinned.checked.prog.looks [] ∧ ∀ (j : Nat) t, fn.params[j]? = some t → Tryd.pinned.checked.prog.wantsStandIn t = false := by
  obtain rfl : f = 5 := Option.some.inj ((show Tryd.prog.funcNamed "cordwood/cordwoodlaw04.ShaPad" = some 5 by kernel_rfl).symm.trans hf) |>.symm
  obtain rfl : fn = Tryd.f5 := (Option.some.inj (Tryd.func5.symm.trans hfn)).symm
  refine ⟨by kernel_rfl, fun j t ht => ?_⟩
  rw [Tryd.params5] at ht
  have hm := Array.mem_of_getElem? ht
  simp only [List.mem_toArray, List.mem_cons, List.not_mem_nil, or_false] at hm
  rcases hm with rfl
  · exact (show Tryd.prog.wantsStandIn 3 = false by kernel_rfl)
theorem shaPad_holds : Rows.ShaPadCardSaid :=
  Claim7.holds_tied_plain_at .later [] _ _ _ _ shaPad_said (fun _ h => by cases h) (by kernel_rfl) (fun _ h => by cases h) shaPad_row_tie rfl ⟨rfl, rfl⟩ (by kernel_rfl) rfl shaPad_plain (by kernel_rfl)
#print axioms shaPad_holds
end Go.Proofs.YthdckgcalooipaaDoor
