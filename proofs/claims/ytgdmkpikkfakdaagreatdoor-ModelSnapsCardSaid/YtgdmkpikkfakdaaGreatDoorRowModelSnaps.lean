/- The law cordwoodlaw16.ModelSnaps holds, as its card says it: whatever the input that can be read, the call returns true, and each argument reads as it read before; the table block.numbers is what the text lays. -/
import Derived.Test.YtgdmkpikkfakdaaGreatDoorBunModelSnaps
import Derived.Test.YtgdmkpikkfakdaaGreatDoorCards
import Derived.Test.YtgdmkpikkfakdaaGreatDoorTie
import Derived.WalkKit
import Derived.ProofKit
import Derived.OpenShut
import Derived.ShutString
import Derived.ChangeOld
import Derived.Below
import Derived.SizedLaws
import Derived.Deep.DeepHandedRow
import Derived.Lib.LaidTab
namespace Go.Proofs.YtgdmkpikkfakdaaGreatDoor
open Go.ChangeShapes Go.WideShapes Go.ChangeAt Go.RowKit
set_option linter.unusedVariables false
theorem run_modelsnaps (W : World) (hG : GlobOk (fun _ => False) noMu W) {v0 : Value} {x0 : List MOp} (s0 : Sl kOp W (fun _ => False) v0 x0) {v1 : Value} {x1 : List MOp} (s1 : Sl kOp W (fun _ => False) v1 x1) {n2 : Int} (w2 : (Lit.int .i64 n2).wf = true) {n3 : Int} (w3 : (Lit.int .i64 n3).wf = true) :
    Calls Tryz.prog 6 #[v0, v1, .int .i64 n2, .int .i64 n3] W fun e W' => e = .returned (.bool true) ∧ Below W.heap.size W W' :=
  run_apure (vs := [v0, v1, .int .i64 n2, .int .i64 n3]) (msnaps_law x0 x1 n2 n3 (olen_of s0) (olen_of s1)) hG (.cons (rv_ops s0) (.cons (rv_ops s1) (.cons (.lit _) (.cons (.lit _) .nil))))
theorem modelSnaps_own : ownKnob Tryz.prog.godebug = none := by kernel_rfl
theorem modelSnaps_laidOut : laidOutB Tryz.prog = true := by kernel_rfl
def modelSnaps_lay (cs : Array Value) : Obj → Obj
  | .cells _ t frozen => .cells cs t frozen
  | o => o
noncomputable def modelSnaps_world (os : Os) : World :=
  { World.holding Tryz.prog os ⟨#[], #[], []⟩ with heap := (((World.holding Tryz.prog os ⟨#[], #[], []⟩).heap.modify 0 (modelSnaps_lay (Lib.deBruijn32tab.map fun x : Nat => Value.int .u8 (x : Int)).toArray)).modify 1 (modelSnaps_lay (Lib.deBruijn64tab.map fun x : Nat => Value.int .u8 (x : Int)).toArray)).modify 2 (modelSnaps_lay (u32s nums)) }
theorem modelSnaps_met (os : Os) : laidMet Tryz.prog Rows.modelSnapsRow.laid ((modelSnaps_world os).forCall (fun _ _ => 0) ⟨#[], #[.slice none 0 0, .slice none 0 0, .int .i64 0, .int .i64 0], []⟩).memory :=
  laidMet_of_run' 8 (by kernel_rfl) (by kernel_rfl)
theorem modelSnaps_reads (os : Os) {H : Type} (enc : TypeId × Value → H) : ∃ places, DataW.whole enc Tryz.prog ((modelSnaps_world os).forCall (fun _ _ => 0) ⟨#[], #[.slice none 0 0, .slice none 0 0, .int .i64 0, .int .i64 0], []⟩).memory Tryz.f6.params.toList Rows.modelSnapsSpec.vars false (#[.slice none 0 0, .slice none 0 0, .int .i64 0, .int .i64 0] : Array Value).toList 8 = some ([.nil, .nil, .lit (.int .i64 0), .lit (.int .i64 0)], [], places) :=
  ⟨[], by kernel_rfl⟩
set_option maxRecDepth 100000 in
theorem modelSnaps_lifted (os : Os) (started : os.Started) (H : Type) (enc : TypeId × Value → H) (F : Stop.Interp) :
    ReturnsInHanded {} Tryz.checked os 6 .any ((OpenSpec.ofChange Rows.modelSnapsSpec).preRow enc Tryz.prog Tryz.f6 Rows.modelSnapsRow.domain false Rows.modelSnapsRow.laid) (((OpenSpec.ofChange Rows.modelSnapsSpec).at F).post enc Tryz.prog Tryz.f6 false true false false) := by
  obtain ⟨places, hx⟩ := modelSnaps_reads os enc
  refine returnsInHanded_of_row (C := Tryz.checked) (s := OpenSpec.ofChange Rows.modelSnapsSpec) modelSnaps_own started (by kernel_rfl) Tryz.func6
    (witness_row_at (enc := enc) (C := Tryz.checked) false (modelSnaps_world os) #[.slice none 0 0, .slice none 0 0, .int .i64 0, .int .i64 0] rfl (by kernel_rfl) (by kernel_rfl) (by kernel_rfl)
      (OpenSpec.preRow_of_cond 8 hx (by kernel_rfl) (fun k hk => by cases hk) (by kernel_rfl) (modelSnaps_met os))) ?_
  intro W base args ds gs before hval0 hW _ _ _ hL _ _
  have hG : GlobOk (fun _ => False) noMu W := glob_laid hL
  have hval : ∀ (j : Nat) t v, Tryz.f6.params[j]? = some t → args[j]? = some v → Value.okWide Tryz.prog W .any base t v := hval0
  have hW' := hW
  obtain ⟨p, q, hA0, hV, rfl, hfz, hnd⟩ := hW
  have hA : DataW.TrodAll enc Tryz.prog W 0 (fun _ => true) true Tryz.f6.params.toList args.toList ds p := hA0
  rw [Tryz.params6] at hA hval
  obtain ⟨v0, vs0, d0, ds0, p0, q0, hargs, rfl, rfl, h0, r0⟩ := trodAll_cons hA
  obtain ⟨v1, vs1, d1, ds1, p1, q1, rfl, rfl, rfl, h1, r1⟩ := trodAll_cons r0
  obtain ⟨v2, vs2, d2, ds2, p2, q2, rfl, rfl, rfl, h2, r2⟩ := trodAll_cons r1
  obtain ⟨v3, vs3, d3, ds3, p3, q3, rfl, rfl, rfl, h3, r3⟩ := trodAll_cons r2
  obtain ⟨rfl, rfl, rfl⟩ := trodAll_nil r3
  obtain rfl : args = #[v0, v1, v2, v3] := by cases args; simp_all
  obtain ⟨rfl, rfl⟩ := trodVars_none hV
  obtain ⟨a0, len0, cap0, rfl⟩ := okWide_slice Tryz.underlying44 (hval 0 44 v0 rfl rfl)
  have lt0 : ∀ x ∈ p0, x.block < W.heap.size := by obtain ⟨m, hm⟩ := h0; exact DataW.trod_lt m _ _ _ hm
  obtain ⟨xs0, sl0⟩ := arg_sl opens_ops h0
  obtain ⟨a1, len1, cap1, rfl⟩ := okWide_slice Tryz.underlying44 (hval 1 44 v1 rfl rfl)
  have lt1 : ∀ x ∈ p1, x.block < W.heap.size := by obtain ⟨m, hm⟩ := h1; exact DataW.trod_lt m _ _ _ hm
  obtain ⟨xs1, sl1⟩ := arg_sl opens_ops h1
  obtain ⟨a2, rfl, rfl, rfl, w2⟩ := open_int Tryz.underlying3 (hval 2 3 v2 rfl rfl) h2
  obtain ⟨a3, rfl, rfl, rfl, w3⟩ := open_int Tryz.underlying3 (hval 3 3 v3 rfl rfl) h3
  refine (run_modelsnaps W hG sl0 sl1 w2 w3).mono fun e W' ⟨he, bel⟩ => ?_
  subst he
  exact ⟨_, rfl, _, _, _, [], _, [], hW', trodAll_mk1 (shut_bool Tryz.underlying4 _), (trodAll_cons_mk (Below.trod modelSnaps_laidOut (by kernel_rfl) (of_decide_eq_true (by kernel_rfl)) h0 bel lt0) (trodAll_cons_mk (Below.trod modelSnaps_laidOut (by kernel_rfl) (of_decide_eq_true (by kernel_rfl)) h1 bel lt1) (trodAll_cons_mk (shut_int Tryz.underlying3 w2) (trodAll_cons_mk (shut_int Tryz.underlying3 w3) trodAll_mk0)))), rfl, bel.frame _, fun h => by cases h⟩
set_option maxRecDepth 100000
set_option maxHeartbeats 4000000 in
theorem modelSnaps_closed : joinedFacts Tryz.pinned.checked.prog 6 Tryz.f6 (OpenSpec.ofChange Rows.modelSnapsSpec).bare Rows.modelSnapsRow = true := by
  unfold joinedFacts
  repeat' (with_reducible refine andt ?_ ?_)
  all_goals as_aux_lemma => kernel_rfl
theorem modelSnaps_inst : Tryz.f6.isInstance Tryz.pinned.checked.prog Rows.modelSnapsRow.origin Rows.modelSnapsRow.targs := of_decide_eq_true (by kernel_rfl)
theorem modelSnaps_wrap : Tryz.f6.isWrapper Tryz.pinned.checked.prog Rows.modelSnapsRow.wrapper Rows.modelSnapsRow.mainSum := by unfold Func.isWrapper; first | (rw [if_pos (by decide +kernel)]; kernel_rfl) | (rw [if_neg (by decide +kernel)]; exact ⟨rfl, rfl⟩)
theorem modelSnaps_named : Tryz.pinned.checked.prog.funcNamed Rows.modelSnapsRow.func = some 6 := by kernel_rfl
theorem modelSnaps_said : Rows.ModelSnapsSaid :=
  OpenClaim.holds_of_cond 6 Tryz.f6 rfl rfl rfl rfl rfl rfl rfl ⟨rfl, rfl, rfl, rfl, rfl⟩ rfl rfl rfl rfl rfl modelSnaps_named Tryz.func6 modelSnaps_closed modelSnaps_inst modelSnaps_wrap
    (fun os started H enc _ F => by rw [OpenClaim.pre_eq_preRow]; exact modelSnaps_lifted os started H enc F)
theorem modelSnaps_plain (f : FuncId) (fn : Func) (hf : Tryz.pinned.checked.prog.funcNamed "cordwood/cordwoodlaw16.ModelSnaps" = some f) (hfn : Tryz.pinned.checked.prog.funcs[f]? = some fn) :
    false = Tryz.pinned.checked.prog.looks [] ∧ ∀ (j : Nat) t, fn.params[j]? = some t → Tryz.pinned.checked.prog.wantsStandIn t = false := by
  obtain rfl : f = 6 := Option.some.inj ((show Tryz.prog.funcNamed "cordwood/cordwoodlaw16.ModelSnaps" = some 6 by kernel_rfl).symm.trans hf) |>.symm
  obtain rfl : fn = Tryz.f6 := (Option.some.inj (Tryz.func6.symm.trans hfn)).symm
  refine ⟨by kernel_rfl, fun j t ht => ?_⟩
  rw [Tryz.params6] at ht
  have hm := Array.mem_of_getElem? ht
  simp only [List.mem_toArray, List.mem_cons, List.not_mem_nil, or_false] at hm
  rcases hm with rfl | rfl | rfl | rfl
  · exact (show Tryz.prog.wantsStandIn 44 = false by kernel_rfl)
  · exact (show Tryz.prog.wantsStandIn 44 = false by kernel_rfl)
  · exact (show Tryz.prog.wantsStandIn 3 = false by kernel_rfl)
  · exact (show Tryz.prog.wantsStandIn 3 = false by kernel_rfl)
theorem modelSnaps_holds : Rows.ModelSnapsCardSaid :=
  Claim7.holds_tied_plain_at .later [] _ _ _ _ modelSnaps_said (fun _ h => by cases h) (by kernel_rfl) (fun _ h => by cases h) modelSnaps_row_tie rfl ⟨rfl, rfl⟩ (by kernel_rfl) rfl modelSnaps_plain (by kernel_rfl)
#print axioms modelSnaps_holds
end Go.Proofs.YtgdmkpikkfakdaaGreatDoor
