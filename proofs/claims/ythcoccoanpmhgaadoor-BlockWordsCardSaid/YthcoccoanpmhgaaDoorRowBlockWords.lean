/- The law cordwoodlaw03.BlockWords holds, as its card says it: whatever the input that can be read, the call returns true, and each argument reads as it read before; the table block.numbers is what the text lays. -/
import Derived.Test.YthcoccoanpmhgaaDoorCards
import Derived.Test.YthcoccoanpmhgaaDoorTie
import Derived.Test.YthcoccoanpmhgaaDoorBlkLaw4
import Derived.Test.YthcoccoanpmhgaaDoorOpenArr
import Derived.WalkKit
import Derived.ProofKit
import Derived.OpenShut
import Derived.ShutString
import Derived.ChangeOld
import Derived.Below
import Derived.SizedLaws
import Derived.Deep.DeepHandedRow
import Derived.Lib.LaidTab
namespace Go.Proofs.YthcoccoanpmhgaaDoor
open Go.ChangeShapes Go.WideShapes Go.ChangeAt Go.RowKit
set_option linter.unusedVariables false
theorem run_blockwords (W : World) (hT : TabB W) {l0 : List UInt32} (hl0 : l0.length = 8) {l1 : List UInt8} (hl1 : l1.length = 64) {n2 : Int} (w2 : (Lit.int .i64 n2).wf = true) (y3 : UInt8) :
    Calls Tryd.prog 6 #[.agg (u32s l0), .agg (b8s l1), .int .i64 n2, .int .u8 (y3.toNat : Int)] W fun e W' => e = .returned (.bool true) ∧ Below W.heap.size W W' :=
  run_apure (vs := [.agg (u32s l0), .agg (b8s l1), .int .i64 n2, .int .u8 (y3.toNat : Int)]) (bwords_law l0 l1 n2 y3 hl0 hl1) (glob_of hT) (.cons (u32s_arr hl0) (.cons (b8s_arr hl1) (.cons (.lit _) (.cons (.lit _) .nil))))
theorem blockWords_own : ownKnob Tryd.prog.godebug = none := by kernel_rfl
theorem blockWords_laidOut : laidOutB Tryd.prog = true := by kernel_rfl
noncomputable def blockWords_world (os : Os) : World :=
  { World.holding Tryd.prog os ⟨#[], #[], []⟩ with heap := (World.holding Tryd.prog os ⟨#[], #[], []⟩).heap.modify 0 fun
      | .cells _ t frozen => .cells (u32s nums) t frozen
      | o => o }
theorem blockWords_met (os : Os) : laidMet Tryd.prog Rows.blockWordsRow.laid ((blockWords_world os).forCall (fun _ _ => 0) ⟨#[], #[.agg (u32s (List.replicate 8 0)), .agg (b8s (List.replicate 64 0)), .int .i64 0, .int .u8 0], []⟩).memory :=
  laidMet_of_run' 8 (by kernel_rfl) (by kernel_rfl)
theorem blockWords_reads (os : Os) {H : Type} (enc : TypeId × Value → H) : ∃ places, DataW.whole enc Tryd.prog ((blockWords_world os).forCall (fun _ _ => 0) ⟨#[], #[.agg (u32s (List.replicate 8 0)), .agg (b8s (List.replicate 64 0)), .int .i64 0, .int .u8 0], []⟩).memory Tryd.f6.params.toList Rows.blockWordsSpec.vars false (#[.agg (u32s (List.replicate 8 0)), .agg (b8s (List.replicate 64 0)), .int .i64 0, .int .u8 0] : Array Value).toList 8 = some ([.agg (List.replicate 8 (.lit (.int .u32 0))), .agg (List.replicate 64 (.lit (.int .u8 0))), .lit (.int .i64 0), .lit (.int .u8 0)], [], places) :=
  ⟨[], by kernel_rfl⟩
set_option maxRecDepth 100000 in
theorem blockWords_lifted (os : Os) (started : os.Started) (H : Type) (enc : TypeId × Value → H) (F : Stop.Interp) :
    ReturnsInHanded {} Tryd.checked os 6 .any ((OpenSpec.ofChange Rows.blockWordsSpec).preRow enc Tryd.prog Tryd.f6 Rows.blockWordsRow.domain false Rows.blockWordsRow.laid) (((OpenSpec.ofChange Rows.blockWordsSpec).at F).post enc Tryd.prog Tryd.f6 false true false false) := by
  obtain ⟨places, hx⟩ := blockWords_reads os enc
  refine returnsInHanded_of_row (C := Tryd.checked) (s := OpenSpec.ofChange Rows.blockWordsSpec) blockWords_own started (by kernel_rfl) Tryd.func6
    (witness_row_at (enc := enc) (C := Tryd.checked) false (blockWords_world os) #[.agg (u32s (List.replicate 8 0)), .agg (b8s (List.replicate 64 0)), .int .i64 0, .int .u8 0] rfl (by kernel_rfl) (by kernel_rfl) (by kernel_rfl)
      (OpenSpec.preRow_of_cond 8 hx (by kernel_rfl) (fun k hk => by cases hk) (by kernel_rfl) (blockWords_met os))) ?_
  intro W base args ds gs before hval0 hW _ _ _ hL _ _
  have hT : TabB W := tab_of hL
  have hval : ∀ (j : Nat) t v, Tryd.f6.params[j]? = some t → args[j]? = some v → Value.okWide Tryd.prog W .any base t v := hval0
  have hW' := hW
  obtain ⟨p, q, hA0, hV, rfl, hfz, hnd⟩ := hW
  have hA : DataW.TrodAll enc Tryd.prog W 0 (fun _ => true) true Tryd.f6.params.toList args.toList ds p := hA0
  rw [Tryd.params6] at hA hval
  obtain ⟨v0, vs0, d0, ds0, p0, q0, hargs, rfl, rfl, h0, r0⟩ := trodAll_cons hA
  obtain ⟨v1, vs1, d1, ds1, p1, q1, rfl, rfl, rfl, h1, r1⟩ := trodAll_cons r0
  obtain ⟨v2, vs2, d2, ds2, p2, q2, rfl, rfl, rfl, h2, r2⟩ := trodAll_cons r1
  obtain ⟨v3, vs3, d3, ds3, p3, q3, rfl, rfl, rfl, h3, r3⟩ := trodAll_cons r2
  obtain ⟨rfl, rfl, rfl⟩ := trodAll_nil r3
  obtain rfl : args = #[v0, v1, v2, v3] := by cases args; simp_all
  obtain ⟨rfl, rfl⟩ := trodVars_none hV
  have lt0 : ∀ x ∈ p0, x.block < W.heap.size := by obtain ⟨m, hm⟩ := h0; exact DataW.trod_lt m _ _ _ hm
  obtain ⟨xs0, rfl, hl0⟩ := arg_arr (fun x => Value.int .u32 (wv x)) (num_u32 und_u32) (by kernel_rfl) (by kernel_rfl) (by kernel_rfl) (hval 0 23 v0 rfl rfl) h0
  have lt1 : ∀ x ∈ p1, x.block < W.heap.size := by obtain ⟨m, hm⟩ := h1; exact DataW.trod_lt m _ _ _ hm
  obtain ⟨xs1, rfl, hl1⟩ := arg_arr (fun x : UInt8 => Value.int .u8 x.toNat) (num_u8 und_u8) (by kernel_rfl) (by kernel_rfl) (by kernel_rfl) (hval 1 24 v1 rfl rfl) h1
  obtain ⟨a2, rfl, rfl, rfl, w2⟩ := open_int Tryd.underlying3 (hval 2 3 v2 rfl rfl) h2
  obtain ⟨a3, rfl, rfl, rfl, w3⟩ := open_int Tryd.underlying5 (hval 3 5 v3 rfl rfl) h3
  obtain ⟨y3, rfl⟩ := u8_of_wf w3
  refine (run_blockwords W hT hl0 hl1 w2 y3).mono fun e W' ⟨he, bel⟩ => ?_
  subst he
  exact ⟨_, rfl, _, _, _, [], _, [], hW', trodAll_mk1 (shut_bool Tryd.underlying4 _), (trodAll_cons_mk (Below.trod blockWords_laidOut (by kernel_rfl) (of_decide_eq_true (by kernel_rfl)) h0 bel lt0) (trodAll_cons_mk (Below.trod blockWords_laidOut (by kernel_rfl) (of_decide_eq_true (by kernel_rfl)) h1 bel lt1) (trodAll_cons_mk (shut_int Tryd.underlying3 w2) (trodAll_cons_mk (shut_int Tryd.underlying5 w3) trodAll_mk0)))), rfl, bel.frame _, fun h => by cases h⟩
theorem blockWords_said : Rows.BlockWordsSaid :=
  OpenClaim.holds_of_cond 6 Tryd.f6 rfl rfl rfl rfl rfl rfl rfl ⟨rfl, rfl, rfl, rfl, rfl⟩ rfl rfl rfl rfl rfl (by kernel_rfl) Tryd.func6 (by kernel_rfl)
    (of_decide_eq_true (by kernel_rfl)) (by unfold Func.isWrapper; first | (rw [if_pos (by decide +kernel)]; kernel_rfl) | (rw [if_neg (by decide +kernel)]; exact ⟨rfl, rfl⟩))
    (fun os started H enc _ F => by rw [OpenClaim.pre_eq_preRow]; exact blockWords_lifted os started H enc F)
theorem blockWords_plain (f : FuncId) (fn : Func) (hf : Tryd.pinned.checked.prog.funcNamed "cordwood/cordwoodlaw03.BlockWords" = some f) (hfn : Tryd.pinned.checked.prog.funcs[f]? = some fn) :
    false = Tryd.pinned.checked.prog.looks [] ∧ ∀ (j : Nat) t, fn.params[j]? = some t → Tryd.pinned.checked.prog.wantsStandIn t = false := by
  obtain rfl : f = 6 := Option.some.inj ((show Tryd.prog.funcNamed "cordwood/cordwoodlaw03.BlockWords" = some 6 by kernel_rfl).symm.trans hf) |>.symm
  obtain rfl : fn = Tryd.f6 := (Option.some.inj (Tryd.func6.symm.trans hfn)).symm
  refine ⟨by kernel_rfl, fun j t ht => ?_⟩
  rw [Tryd.params6] at ht
  have hm := Array.mem_of_getElem? ht
  simp only [List.mem_toArray, List.mem_cons, List.not_mem_nil, or_false] at hm
  rcases hm with rfl | rfl | rfl | rfl
  · exact (show Tryd.prog.wantsStandIn 23 = false by kernel_rfl)
  · exact (show Tryd.prog.wantsStandIn 24 = false by kernel_rfl)
  · exact (show Tryd.prog.wantsStandIn 3 = false by kernel_rfl)
  · exact (show Tryd.prog.wantsStandIn 5 = false by kernel_rfl)
theorem blockWords_holds : Rows.BlockWordsCardSaid :=
  Claim7.holds_tied_plain_at .later [] _ _ _ _ blockWords_said (fun _ h => by cases h) (by kernel_rfl) (fun _ h => by cases h) blockWords_row_tie rfl ⟨rfl, rfl⟩ (by kernel_rfl) rfl blockWords_plain (by kernel_rfl)
#print axioms blockWords_holds
end Go.Proofs.YthcoccoanpmhgaaDoor
