/- LeafTwo, walked. -/
import Derived.Test.YtebkibhjfomcpaaLeaf5
import Derived.Test.YtebkibhjfomcpaaLOpen
namespace Go.Proofs.Ytebkibhjfomcpaa
open Go.RowKit
attribute [local irreducible] EachR AO IterP RoundP ADr AL AW Then InBlock RetP Tells APure ACall
set_option linter.unusedVariables false
set_option linter.unusedSimpArgs false
set_option maxRecDepth 100000
/-- Leaves' octets, one behind the other. -/
def catL (l : List Leaf) : List UInt8 := (l.map (lput [])).flatten
theorem catL_snoc (l : List Leaf) (i : Nat) (h : i < l.length) : catL (l.take (i + 1)) = catL (l.take i) ++ lput [] l[i] := by
  unfold catL
  rw [List.take_succ_eq_append_getElem h, List.map_append, List.flatten_append]; simp
theorem catL_drop (l : List Leaf) (i : Nat) (h : i < l.length) : catL (l.drop i) = lput [] l[i] ++ catL (l.drop (i + 1)) := by
  unfold catL
  rw [List.drop_eq_getElem_cons h, List.map_cons, List.flatten_cons]
theorem catL_len : ∀ (l : List Leaf), (∀ x ∈ l, lcheck x = 0) → (catL l).length ≤ 4000000 * l.length
  | [], _ => by simp [catL]
  | x :: l, h => by
    have := catL_len l fun y hy => h y (List.mem_cons_of_mem _ hy)
    have := (lput_len (h x (List.mem_cons_self ..))).2
    simp only [catL, List.map_cons, List.flatten_cons, List.length_append, List.length_cons] at *
    omega
theorem lput_app {l : Leaf} (h : lcheck l = 0) (b : List UInt8) : lput b l = b ++ lput [] l := by rw [lput_eq h, lput_eq h []]; simp
set_option maxHeartbeats 1000000 in
theorem ltwo_law (l : List Leaf) : APure Try.prog 7 [slE eLeaf l] (.lit (.bool true)) [] := by
  refine apure_of hT Try.func7 rfl ?_
  simp only [Try.ntmps7, List.length_cons, List.length_nil, Nat.reduceAdd, Nat.reduceSub, List.replicate, List.cons_append, List.nil_append]
  refine go ⟨?_⟩
  refine cal goLAwake lawake_p ⟨?_⟩
  refine go ⟨?_⟩
  have e0 : catL (l.take 0) = [] := rfl
  refine lp (fun i : {i : Nat // i ≤ l.length ∧ i ≤ 10 ∧ ∀ x ∈ l.take i, lcheck x = 0} => [(4, bytes (catL (l.take i.1))), (5, int i.1)]) (fun _ => []) (fun i => 10 - i.1) ⟨0, by simp⟩ ?_
  rintro ⟨i, hi, hi10, hok⟩
  have hlen := catL_len _ hok
  rw [List.length_take] at hlen
  by_cases h1 : i < l.length ∧ i < 10
  · obtain ⟨h1, h2⟩ := h1
    have ex : l.getD i eLeaf.z = l[i] := by simp [List.getD_eq_getElem?_getD, h1]
    refine go ⟨?_⟩
    refine cal goFew (few_p (l.getD i eLeaf.z)) ⟨?_⟩
    refine go ⟨?_⟩
    cases hf : lfew (l.getD i eLeaf.z)
    · refine go ⟨?_⟩
      exact fin
    refine go ⟨?_⟩
    refine cal goCheck (check_p (l.getD i eLeaf.z)) ⟨?_⟩
    refine go ⟨?_⟩
    by_cases hc : lcheck (l.getD i eLeaf.z) = 0
    case neg =>
      refine go ⟨?_⟩
      exact fin
    refine go ⟨?_⟩
    refine cal goLPut (lput_p (catL (l.take i)) (l.getD i eLeaf.z) (by omega)) ⟨?_⟩
    have e1 : lput (catL (l.take i)) (l.getD i eLeaf.z) = catL (l.take (i + 1)) := by rw [lput_app hc, catL_snoc l i h1, ex]
    rw [e1]
    refine go ⟨?_⟩
    refine je ⟨⟨i + 1, by omega, by omega, fun x hx => ?_⟩, by simp only; omega, ?_⟩
    · rw [List.take_succ_eq_append_getElem h1] at hx
      rcases List.mem_append.1 hx with hx | hx
      · exact hok x hx
      · rw [List.mem_singleton.1 hx, ← ex]; exact hc
    · exact tel
  · have hex : i = l.length ∨ i = 10 ∧ i < l.length := by omega
    rcases hex with hex | ⟨hex, hex'⟩
    · refine go ⟨?_⟩
      refine lp (fun j : {j : Nat // j ≤ i} => [(4, bytes (catL ((l.take i).drop j.1))), (6, int j.1)]) (fun _ => []) (fun j => 10 - j.1) ⟨0, by simp⟩ ?_
      rintro ⟨j, hj⟩
      by_cases h1 : j < i
      · have ht : (l.take i).length = i := by rw [List.length_take]; omega
        have ex : l.getD j eLeaf.z = (l.take i)[j] := by rw [List.getElem_take, List.getD_eq_getElem?_getD, List.getElem?_eq_getElem (by omega)]; rfl
        have hx := hok _ (List.getElem_mem (l := l.take i) (n := j) (by omega))
        have c1 := lgetw_p (catL ((l.take i).drop j))
        rw [catL_drop (l.take i) j (by omega), lget_put hx] at c1
        rw [catL_drop (l.take i) j (by omega)]
        rw [← ex] at c1 ⊢
        refine go ⟨?_⟩
        refine cal goLGet c1 ⟨?_⟩
        refine go ⟨?_⟩
        have c2 := rsame_p (l.getD j eLeaf.z) (l.getD j eLeaf.z)
        rw [decide_eq_true rfl] at c2
        refine cal goRSame c2 ⟨?_⟩
        refine go ⟨?_⟩
        refine je ⟨⟨j + 1, by omega⟩, by simp only; omega, ?_⟩
        exact tel
      · have e2 : (l.take i).drop j = [] := List.drop_eq_nil_of_le (by rw [List.length_take]; omega)
        rw [e2]
        refine go ⟨?_⟩
        exact fin
    · refine go ⟨?_⟩
      refine lp (fun j : {j : Nat // j ≤ i} => [(4, bytes (catL ((l.take i).drop j.1))), (6, int j.1)]) (fun _ => []) (fun j => 10 - j.1) ⟨0, by simp⟩ ?_
      rintro ⟨j, hj⟩
      by_cases h1 : j < i
      · have ht : (l.take i).length = i := by rw [List.length_take]; omega
        have ex : l.getD j eLeaf.z = (l.take i)[j] := by rw [List.getElem_take, List.getD_eq_getElem?_getD, List.getElem?_eq_getElem (by omega)]; rfl
        have hx := hok _ (List.getElem_mem (l := l.take i) (n := j) (by omega))
        have c1 := lgetw_p (catL ((l.take i).drop j))
        rw [catL_drop (l.take i) j (by omega), lget_put hx] at c1
        rw [catL_drop (l.take i) j (by omega)]
        rw [← ex] at c1 ⊢
        refine go ⟨?_⟩
        refine cal goLGet c1 ⟨?_⟩
        refine go ⟨?_⟩
        have c2 := rsame_p (l.getD j eLeaf.z) (l.getD j eLeaf.z)
        rw [decide_eq_true rfl] at c2
        refine cal goRSame c2 ⟨?_⟩
        refine go ⟨?_⟩
        refine je ⟨⟨j + 1, by omega⟩, by simp only; omega, ?_⟩
        exact tel
      · have e2 : (l.take i).drop j = [] := List.drop_eq_nil_of_le (by rw [List.length_take]; omega)
        rw [e2]
        refine go ⟨?_⟩
        exact fin
end Go.Proofs.Ytebkibhjfomcpaa
