/- WireIs, walked. -/
import Derived.Test.YthdckgcalooipaaWRef2
namespace Go.Proofs.Ythdckgcalooipaa
open Go.RowKit
attribute [local irreducible] IterP RoundP ADr AL AW Then InBlock RetP Tells APure ACall
set_option linter.unusedVariables false
set_option linter.unusedSimpArgs false
set_option maxRecDepth 100000
theorem wgetNums_len (b : List UInt8) : (wgetNums b).1.length ≤ 262144 := by
  have h := wgetBytes_len b
  unfold wgetNums
  split
  · simp
  · split
    · simp
    · simp [nums4]; omega
set_option maxHeartbeats 2000000 in
theorem is_law (b v : List UInt8) (l : List Int) (n k : Int) : APure Try.prog 4 [bytes b, bytes v, ints l, int n, int k] (.lit (.bool true)) [] := by
  refine apure_of hT Try.func4 rfl ?_
  simp only [Try.ntmps4, List.length_cons, List.length_nil, Nat.reduceAdd, Nat.reduceSub, List.replicate, List.cons_append, List.nil_append]
  refine go ⟨?_⟩
  refine cal goAwake awake_p ⟨?_⟩
  by_cases h1 : b.length > 1000
  · refine go ⟨?_⟩
    exact fin
  by_cases h2 : v.length > 1000
  · refine go ⟨?_⟩
    exact fin
  by_cases h3 : l.length > 100
  · refine go ⟨?_⟩
    exact fin
  refine go ⟨?_⟩
  refine cal goGetNum (getNum_p b k) ⟨?_⟩
  refine go ⟨?_⟩
  refine cal goRGetNum (rgetNum_p b k) ⟨?_⟩
  refine go ⟨?_⟩
  refine cal goGetBytes (getBytes_p b) ⟨?_⟩
  refine go ⟨?_⟩
  refine cal goRGetBytes (rgetBytes_p b) ⟨?_⟩
  refine go ⟨?_⟩
  refine cal goGetNums (getNums_p b) ⟨?_⟩
  refine go ⟨?_⟩
  refine cal goRGetNums (rgetNums_p b) ⟨?_⟩
  refine go ⟨?_⟩
  refine cal goGetFlag (getFlag_p b) ⟨?_⟩
  refine go ⟨?_⟩
  refine cal goRGetFlag (rgetFlag_p b) ⟨?_⟩
  refine go ⟨?_⟩
  have hn := wgetNums_len b
  have ei := ints_p (wgetNums b).1 (wgetNums b).1 (by omega)
  rw [decide_eq_true rfl] at ei
  refine cal goInts ei ⟨?_⟩
  refine go ⟨?_⟩
  have e1 : b ++ nbytes n (max 1 (min k 4)).toNat (max 1 (min k 4)).toNat = b ++ nby n k := rfl
  have c1 := putNum_p b n k (by omega)
  rw [e1] at c1
  refine cal goPutNum c1 ⟨?_⟩
  refine go ⟨?_⟩
  refine cal goRPutNum (rputNum_p b n k (by omega)) ⟨?_⟩
  refine go ⟨?_⟩
  refine cal goPutBytes (putBytes_p b v (by omega)) ⟨?_⟩
  refine go ⟨?_⟩
  refine cal goRPutBytes (rputBytes_p b v (by omega)) ⟨?_⟩
  refine go ⟨?_⟩
  refine cal goPutNums (putNums_p b l (by omega) (by omega)) ⟨?_⟩
  refine go ⟨?_⟩
  refine cal goRPutNums (rputNums_p b l (by omega) (by omega)) ⟨?_⟩
  refine go ⟨?_⟩
  refine cal goPutFlag (putFlag_p b _ (by omega)) ⟨?_⟩
  refine go ⟨?_⟩
  refine cal goRPutFlag (rputFlag_p b _ (by omega)) ⟨?_⟩
  refine go ⟨?_⟩
  exact fin
end Go.Proofs.Ythdckgcalooipaa
