/- The law cordwoodlaw16.ModelAsks holds, as its card says it: whatever the input that can be read, the call returns true, and each argument reads as it read before; the table block.numbers is what the text lays. -/
import Derived.Test.YtgdmkpikkfakdaaGreatDoorBunModelAsks
import Derived.Test.YtgdmkpikkfakdaaGreatDoorCards
import Derived.Test.YtgdmkpikkfakdaaGreatDoorTie
import Derived.WalkKit
import Derived.ProofKit
import Derived.OpenShut
import Derived.ShutString
import Derived.ChangeOld
import Derived.Below
import Derived.SizedLaws
import Derived.Deep.DeepHandedRow
import Derived.Lib.LaidTab
namespace Go.Proofs.YtgdmkpikkfakdaaGreatDoor
open Go.ChangeShapes Go.WideShapes Go.ChangeAt Go.RowKit
set_option linter.unusedVariables false
theorem run_modelasks (W : World) (hG : GlobOk (fun _ => False) noMu W) {v0 : Value} {x0 : List MOp} (s0 : Sl kOp W (fun _ => False) v0 x0) {n1 : Int} (w1 : (Lit.int .i64 n1).wf = true) {n2 : Int} (w2 : (Lit.int .i64 n2).wf = true) {n3 : Int} (w3 : (Lit.int .i64 n3).wf = true) :
    Calls Tryz.prog 8 #[v0, .int .i64 n1, .int .i64 n2, .int .i64 n3] W fun e W' => e = .returned (.bool true) ∧ Below W.heap.size W W' :=
  run_apure (vs := [v0, .int .i64 n1, .int .i64 n2, .int .i64 n3]) (masks_law x0 n1 n2 n3 (olen_of s0)) hG (.cons (rv_ops s0) (.cons (.lit _) (.cons (.lit _) (.cons (.lit _) .nil))))
theorem modelAsks_own : ownKnob Tryz.prog.godebug = none := by kernel_rfl
theorem modelAsks_laidOut : laidOutB Tryz.prog = true := by kernel_rfl
def modelAsks_lay (cs : Array Value) : Obj → Obj
  | .cells _ t frozen => .cells cs t frozen
  | o => o
noncomputable def modelAsks_world (os : Os) : World :=
  { World.holding Tryz.prog os ⟨#[], #[], []⟩ with heap := (((World.holding Tryz.prog os ⟨#[], #[], []⟩).heap.modify 0 (modelAsks_lay (Lib.deBruijn32tab.map fun x : Nat => Value.int .u8 (x : Int)).toArray)).modify 1 (modelAsks_lay (Lib.deBruijn64tab.map fun x : Nat => Value.int .u8 (x : Int)).toArray)).modify 2 (modelAsks_lay (u32s nums)) }
theorem modelAsks_met (os : Os) : laidMet Tryz.prog Rows.modelAsksRow.laid ((modelAsks_world os).forCall (fun _ _ => 0) ⟨#[], #[.slice none 0 0, .int .i64 0, .int .i64 0, .int .i64 0], []⟩).memory :=
  laidMet_of_run' 8 (by kernel_rfl) (by kernel_rfl)
theorem modelAsks_reads (os : Os) {H : Type} (enc : TypeId × Value → H) : ∃ places, DataW.whole enc Tryz.prog ((modelAsks_world os).forCall (fun _ _ => 0) ⟨#[], #[.slice none 0 0, .int .i64 0, .int .i64 0, .int .i64 0], []⟩).memory Tryz.f8.params.toList Rows.modelAsksSpec.vars false (#[.slice none 0 0, .int .i64 0, .int .i64 0, .int .i64 0] : Array Value).toList 8 = some ([.nil, .lit (.int .i64 0), .lit (.int .i64 0), .lit (.int .i64 0)], [], places) :=
  ⟨[], by kernel_rfl⟩
set_option maxRecDepth 100000 in
theorem modelAsks_lifted (os : Os) (started : os.Started) (H : Type) (enc : TypeId × Value → H) (F : Stop.Interp) :
    ReturnsInHanded {} Tryz.checked os 8 .any ((OpenSpec.ofChange Rows.modelAsksSpec).preRow enc Tryz.prog Tryz.f8 Rows.modelAsksRow.domain false Rows.modelAsksRow.laid) (((OpenSpec.ofChange Rows.modelAsksSpec).at F).post enc Tryz.prog Tryz.f8 false true false false) := by
  obtain ⟨places, hx⟩ := modelAsks_reads os enc
  refine returnsInHanded_of_row (C := Tryz.checked) (s := OpenSpec.ofChange Rows.modelAsksSpec) modelAsks_own started (by kernel_rfl) Tryz.func8
    (witness_row_at (enc := enc) (C := Tryz.checked) false (modelAsks_world os) #[.slice none 0 0, .int .i64 0, .int .i64 0, .int .i64 0] rfl (by kernel_rfl) (by kernel_rfl) (by kernel_rfl)
      (OpenSpec.preRow_of_cond 8 hx (by kernel_rfl) (fun k hk => by cases hk) (by kernel_rfl) (modelAsks_met os))) ?_
  intro W base args ds gs before hval0 hW _ _ _ hL _ _
  have hG : GlobOk (fun _ => False) noMu W := glob_laid hL
  have hval : ∀ (j : Nat) t v, Tryz.f8.params[j]? = some t → args[j]? = some v → Value.okWide Tryz.prog W .any base t v := hval0
  have hW' := hW
  obtain ⟨p, q, hA0, hV, rfl, hfz, hnd⟩ := hW
  have hA : DataW.TrodAll enc Tryz.prog W 0 (fun _ => true) true Tryz.f8.params.toList args.toList ds p := hA0
  rw [Tryz.params8] at hA hval
  obtain ⟨v0, vs0, d0, ds0, p0, q0, hargs, rfl, rfl, h0, r0⟩ := trodAll_cons hA
  obtain ⟨v1, vs1, d1, ds1, p1, q1, rfl, rfl, rfl, h1, r1⟩ := trodAll_cons r0
  obtain ⟨v2, vs2, d2, ds2, p2, q2, rfl, rfl, rfl, h2, r2⟩ := trodAll_cons r1
  obtain ⟨v3, vs3, d3, ds3, p3, q3, rfl, rfl, rfl, h3, r3⟩ := trodAll_cons r2
  obtain ⟨rfl, rfl, rfl⟩ := trodAll_nil r3
  obtain rfl : args = #[v0, v1, v2, v3] := by cases args; simp_all
  obtain ⟨rfl, rfl⟩ := trodVars_none hV
  obtain ⟨a0, len0, cap0, rfl⟩ := okWide_slice Tryz.underlying44 (hval 0 44 v0 rfl rfl)
  have lt0 : ∀ x ∈ p0, x.block < W.heap.size := by obtain ⟨m, hm⟩ := h0; exact DataW.trod_lt m _ _ _ hm
  obtain ⟨xs0, sl0⟩ := arg_sl opens_ops h0
  obtain ⟨a1, rfl, rfl, rfl, w1⟩ := open_int Tryz.underlying3 (hval 1 3 v1 rfl rfl) h1
  obtain ⟨a2, rfl, rfl, rfl, w2⟩ := open_int Tryz.underlying3 (hval 2 3 v2 rfl rfl) h2
  obtain ⟨a3, rfl, rfl, rfl, w3⟩ := open_int Tryz.underlying3 (hval 3 3 v3 rfl rfl) h3
  refine (run_modelasks W hG sl0 w1 w2 w3).mono fun e W' ⟨he, bel⟩ => ?_
  subst he
  exact ⟨_, rfl, _, _, _, [], _, [], hW', trodAll_mk1 (shut_bool Tryz.underlying4 _), (trodAll_cons_mk (Below.trod modelAsks_laidOut (by kernel_rfl) (of_decide_eq_true (by kernel_rfl)) h0 bel lt0) (trodAll_cons_mk (shut_int Tryz.underlying3 w1) (trodAll_cons_mk (shut_int Tryz.underlying3 w2) (trodAll_cons_mk (shut_int Tryz.underlying3 w3) trodAll_mk0)))), rfl, bel.frame _, fun h => by cases h⟩
set_option maxRecDepth 100000
set_option maxHeartbeats 4000000 in
theorem modelAsks_closed : joinedFacts Tryz.pinned.checked.prog 8 Tryz.f8 (OpenSpec.ofChange Rows.modelAsksSpec).bare Rows.modelAsksRow = true := by
  unfold joinedFacts
  repeat' (with_reducible refine andt ?_ ?_)
  all_goals as_aux_lemma => kernel_rfl
theorem modelAsks_inst : Tryz.f8.isInstance Tryz.pinned.checked.prog Rows.modelAsksRow.origin Rows.modelAsksRow.targs := of_decide_eq_true (by kernel_rfl)
theorem modelAsks_wrap : Tryz.f8.isWrapper Tryz.pinned.checked.prog Rows.modelAsksRow.wrapper Rows.modelAsksRow.mainSum := by unfold Func.isWrapper; first | (rw [if_pos (by decide +kernel)]; kernel_rfl) | (rw [if_neg (by decide +kernel)]; exact ⟨rfl, rfl⟩)
theorem modelAsks_named : Tryz.pinned.checked.prog.funcNamed Rows.modelAsksRow.func = some 8 := by kernel_rfl
theorem modelAsks_said : Rows.ModelAsksSaid :=
  OpenClaim.holds_of_cond 8 Tryz.f8 rfl rfl rfl rfl rfl rfl rfl ⟨rfl, rfl, rfl, rfl, rfl⟩ rfl rfl rfl rfl rfl modelAsks_named Tryz.func8 modelAsks_closed modelAsks_inst modelAsks_wrap
    (fun os started H enc _ F => by rw [OpenClaim.pre_eq_preRow]; exact modelAsks_lifted os started H enc F)
theorem modelAsks_plain (f : FuncId) (fn : Func) (hf : Tryz.pinned.checked.prog.funcNamed "cordwood/cordwoodlaw16.ModelAsks" = some f) (hfn : Tryz.pinned.checked.prog.funcs[f]? = some fn) :
    false = Tryz.pinned.checked.prog.looks [] ∧ ∀ (j : Nat) t, fn.params[j]? = some t → Tryz.pinned.checked.prog.wantsStandIn t = false := by
  obtain rfl : f = 8 := Option.some.inj ((show Tryz.prog.funcNamed "cordwood/cordwoodlaw16.ModelAsks" = some 8 by kernel_rfl).symm.trans hf) |>.symm
  obtain rfl : fn = Tryz.f8 := (Option.some.inj (Tryz.func8.symm.trans hfn)).symm
  refine ⟨by kernel_rfl, fun j t ht => ?_⟩
  rw [Tryz.params8] at ht
  have hm := Array.mem_of_getElem? ht
  simp only [List.mem_toArray, List.mem_cons, List.not_mem_nil, or_false] at hm
  rcases hm with rfl | rfl | rfl | rfl
  · exact (show Tryz.prog.wantsStandIn 44 = false by kernel_rfl)
  · exact (show Tryz.prog.wantsStandIn 3 = false by kernel_rfl)
  · exact (show Tryz.prog.wantsStandIn 3 = false by kernel_rfl)
  · exact (show Tryz.prog.wantsStandIn 3 = false by kernel_rfl)
theorem modelAsks_holds : Rows.ModelAsksCardSaid :=
  Claim7.holds_tied_plain_at .later [] _ _ _ _ modelAsks_said (fun _ h => by cases h) (by kernel_rfl) (fun _ h => by cases h) modelAsks_row_tie rfl ⟨rfl, rfl⟩ (by kernel_rfl) rfl modelAsks_plain (by kernel_rfl)
#print axioms modelAsks_holds
end Go.Proofs.YtgdmkpikkfakdaaGreatDoor
