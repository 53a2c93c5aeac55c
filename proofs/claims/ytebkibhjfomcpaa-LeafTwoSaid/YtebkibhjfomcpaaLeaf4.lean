/- The laws of layer 7: the document's example. -/
import Derived.Test.YtebkibhjfomcpaaLeaf3
namespace Go.Proofs.Ytebkibhjfomcpaa
open Go.RowKit
attribute [local irreducible] EachR AO IterP RoundP ADr AL AW Then InBlock RetP Tells APure ACall
set_option linter.unusedVariables false
set_option linter.unusedSimpArgs false
set_option maxRecDepth 100000
theorem lw_get : lget [2, 7, 8, 0, 1, 9] = (⟨[7, 8], [], 1, []⟩, [9], 0) := by decide +kernel
theorem lw_put : lput [] ⟨[7, 8], [], 1, []⟩ = [2, 7, 8, 0, 1] := by decide +kernel
theorem lw_chk : lcheck ⟨[7, 8], [], 1, []⟩ = 0 := by decide +kernel
theorem lw_chk0 : lcheck noLeaf = 5 := by decide +kernel
theorem lawake_p : APure Try.prog 9 [] (.lit (.bool true)) [] := by
  refine apure_of hT Try.func9 rfl ?_
  simp only [Try.ntmps9, List.length_nil, Nat.sub_zero, List.replicate, List.nil_append]
  have c1 := lgetw_p [2, 7, 8, 0, 1, 9]
  rw [lw_get] at c1
  have c2 := lput_p [] ⟨[7, 8], [], 1, []⟩ (by simp)
  rw [lw_put] at c2
  have hs : [2, 7, 8, 0, 1] = (ByteArray.mk #[2, 7, 8, 0, 1]).toList := by decide +kernel
  refine go ⟨?_⟩
  refine cal goLGet c1 ⟨?_⟩
  refine go ⟨?_⟩
  refine cal goLPut c2 ⟨?_⟩
  refine go ⟨?_⟩
  have c3 := same_p ⟨[7, 8], [], 1, []⟩ ⟨[7, 8], [], 1, []⟩
  rw [decide_eq_true rfl] at c3
  refine cal goSame c3 ⟨?_⟩
  refine go ⟨?_⟩
  have c4 := check_p ⟨[7, 8], [], 1, []⟩
  rw [lw_chk] at c4
  refine cal goCheck c4 ⟨?_⟩
  refine go ⟨?_⟩
  have c5 := check_p noLeaf
  rw [lw_chk0] at c5
  refine cal goCheck c5 ⟨?_⟩
  refine go ⟨?_⟩
  exact fin
theorem goLAwake : GoFn Try.prog 9 := ⟨_, _, Try.func9, by kernel_rfl, rfl⟩
theorem lis_law (l m : Leaf) (b : List UInt8) : APure Try.prog 3 [leafA l, leafA m, bytes b] (.lit (.bool true)) [] := by
  refine apure_of hT Try.func3 rfl ?_
  simp only [Try.ntmps3, List.length_cons, List.length_nil, Nat.reduceAdd, Nat.reduceSub, List.replicate, List.cons_append, List.nil_append]
  refine go ⟨?_⟩
  refine cal goLAwake lawake_p ⟨?_⟩
  refine go ⟨?_⟩
  refine cal goFew (few_p l) ⟨?_⟩
  refine go ⟨?_⟩
  cases h1 : lfew l
  · refine go ⟨?_⟩
    exact fin
  refine go ⟨?_⟩
  refine cal goFew (few_p m) ⟨?_⟩
  refine go ⟨?_⟩
  cases h2 : lfew m
  · refine go ⟨?_⟩
    exact fin
  refine go ⟨?_⟩
  by_cases h3 : b.length > 1000
  · refine go ⟨?_⟩
    exact fin
  refine go ⟨?_⟩
  refine cal goLGet (lgetw_p b) ⟨?_⟩
  refine go ⟨?_⟩
  refine cal goRLGet (rlget_p b) ⟨?_⟩
  refine go ⟨?_⟩
  have c3 := rsame_p (lget b).1 (lget b).1
  rw [decide_eq_true rfl] at c3
  refine cal goRSame c3 ⟨?_⟩
  refine go ⟨?_⟩
  refine cal goCheck (check_p l) ⟨?_⟩
  refine go ⟨?_⟩
  refine cal goRCheck (rcheck_p l) ⟨?_⟩
  refine go ⟨?_⟩
  refine cal goLPut (lput_p b l (by omega)) ⟨?_⟩
  refine go ⟨?_⟩
  refine cal goRLPut (rlput_p b l (by omega)) ⟨?_⟩
  refine go ⟨?_⟩
  refine cal goSame (same_p l m) ⟨?_⟩
  refine go ⟨?_⟩
  refine cal goRSame (rsame_p l m) ⟨?_⟩
  refine go ⟨?_⟩
  exact fin
end Go.Proofs.Ytebkibhjfomcpaa
