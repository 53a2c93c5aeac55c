/- The laws of layer 7. -/
import Derived.Test.YtebkibhjfomcpaaLeaf4
import Derived.Test.YtebkibhjfomcpaaLeafP
namespace Go.Proofs.Ytebkibhjfomcpaa
open Go.RowKit
attribute [local irreducible] EachR AO IterP RoundP ADr AL AW Then InBlock RetP Tells APure ACall
set_option linter.unusedVariables false
set_option linter.unusedSimpArgs false
set_option maxRecDepth 100000
theorem lput_bad {l : Leaf} (h : lcheck l ≠ 0) (b : List UInt8) : lput b l = b := by unfold lput; exact if_pos h
theorem lput_len {l : Leaf} (h : lcheck l = 0) : 1 ≤ (lput [] l).length ∧ (lput [] l).length ≤ 4000000 := by
  have h1 := wputBytes_le [] l.enc
  have h2 := wputBytes_le [] l.cred
  have h3 := wputBytes_le [] l.parent
  have h4 : (nby l.source 1).length = 1 := by rw [nby_len]; rfl
  rw [lput_eq h]
  simp only [List.nil_append, List.length_append, List.length_nil] at *
  split
  · omega
  · simp only [List.length_nil]; omega
set_option maxHeartbeats 1000000 in
theorem lback_law (l : Leaf) (tail : List UInt8) (cut : Int) : APure Try.prog 4 [leafA l, bytes tail, int cut] (.lit (.bool true)) [] := by
  refine apure_of hT Try.func4 rfl ?_
  simp only [Try.ntmps4, List.length_cons, List.length_nil, Nat.reduceAdd, Nat.reduceSub, List.replicate, List.cons_append, List.nil_append]
  refine go ⟨?_⟩
  refine cal goLAwake lawake_p ⟨?_⟩
  refine go ⟨?_⟩
  refine cal goFew (few_p l) ⟨?_⟩
  refine go ⟨?_⟩
  cases h1 : lfew l
  · refine go ⟨?_⟩
    exact fin
  by_cases h3 : tail.length > 1000
  · refine go ⟨?_⟩
    exact fin
  refine go ⟨?_⟩
  refine cal goLPut (lput_p [] l (by simp)) ⟨?_⟩
  refine go ⟨?_⟩
  refine cal goCheck (check_p l) ⟨?_⟩
  refine go ⟨?_⟩
  refine aw_if rfl (fun h => ?_) (fun h => ?_)
  · rw [lput_bad h]
    refine go ⟨?_⟩
    exact fin
  have hc : lcheck l = 0 := by simpa using h
  obtain ⟨n1, n2⟩ := lput_len hc
  refine go ⟨?_⟩
  refine app (fU8 (lput [] l)) hT rfl rfl rfl rfl (fun k hk => fU8_app (xs := []) rfl hk) ?_
  refine go ⟨?_⟩
  refine app (fU8 (lput [] l ++ tail)) hT rfl rfl rfl rfl (fun k hk => fU8_app rfl hk) ?_
  refine go ⟨?_⟩
  have c1 := lgetw_p (lput [] l ++ tail)
  rw [lget_put hc] at c1
  refine cal goLGet c1 ⟨?_⟩
  obtain ⟨k, hk, hk2⟩ := and_low cut
  refine go ⟨?_⟩
  rw [hk, tmod_nat]
  have hlt := Nat.mod_lt k (show 0 < (lput [] l).length by omega)
  generalize k % (lput [] l).length = j at *
  refine go ⟨?_⟩
  have c2 := lgetw_p ((lput [] l).take j)
  rw [lget_cut hc hlt] at c2
  refine cal goLGet c2 ⟨?_⟩
  refine go ⟨?_⟩
  have c3 := rsame_p l l
  rw [decide_eq_true rfl] at c3
  refine cal goRSame c3 ⟨?_⟩
  refine go ⟨?_⟩
  have c4 := rsame_p noLeaf noLeaf
  rw [decide_eq_true rfl] at c4
  refine cal goRSame c4 ⟨?_⟩
  refine go ⟨?_⟩
  exact fin
theorem lonly_law (b : List UInt8) : APure Try.prog 5 [bytes b] (.lit (.bool true)) [] := by
  refine apure_of hT Try.func5 rfl ?_
  simp only [Try.ntmps5, List.length_cons, List.length_nil, Nat.reduceAdd, Nat.reduceSub, List.replicate, List.cons_append, List.nil_append]
  refine go ⟨?_⟩
  refine cal goLAwake lawake_p ⟨?_⟩
  by_cases h1 : b.length > 1000
  · refine go ⟨?_⟩
    exact fin
  refine go ⟨?_⟩
  refine cal goLGet (lgetw_p b) ⟨?_⟩
  have hg := lget_cases b
  generalize lget b = x at *
  obtain ⟨l, r, e⟩ := x
  simp only at hg ⊢
  refine go ⟨?_⟩
  rcases hg with ⟨g1, g2, g3⟩ | ⟨g1, g2, g3⟩
  · subst g2 g3
    refine go ⟨?_⟩
    have c3 := same_p noLeaf noLeaf
    rw [decide_eq_true rfl] at c3
    refine cal goSame c3 ⟨?_⟩
    refine go ⟨?_⟩
    exact fin
  · have hl := congrArg List.length g3
    rw [List.length_append] at hl
    refine go ⟨?_⟩
    have c4 := check_p l
    rw [g2] at c4
    refine cal goCheck c4 ⟨?_⟩
    refine go ⟨?_⟩
    refine cal goLPut (lput_p [] l (by simp)) ⟨?_⟩
    refine go ⟨?_⟩
    rw [g3]
    refine go ⟨?_⟩
    exact fin
set_option maxHeartbeats 1000000 in
theorem lapart_law (l m : Leaf) : APure Try.prog 6 [leafA l, leafA m] (.lit (.bool true)) [] := by
  refine apure_of hT Try.func6 rfl ?_
  simp only [Try.ntmps6, List.length_cons, List.length_nil, Nat.reduceAdd, Nat.reduceSub, List.replicate, List.cons_append, List.nil_append]
  refine go ⟨?_⟩
  refine cal goLAwake lawake_p ⟨?_⟩
  refine go ⟨?_⟩
  refine cal goFew (few_p l) ⟨?_⟩
  refine go ⟨?_⟩
  cases h1 : lfew l
  · refine go ⟨?_⟩
    exact fin
  refine go ⟨?_⟩
  refine cal goFew (few_p m) ⟨?_⟩
  refine go ⟨?_⟩
  cases h2 : lfew m
  · refine go ⟨?_⟩
    exact fin
  refine go ⟨?_⟩
  refine cal goCheck (check_p l) ⟨?_⟩
  refine go ⟨?_⟩
  by_cases hl : lcheck l = 0
  case neg =>
    refine go ⟨?_⟩
    exact fin
  refine go ⟨?_⟩
  refine cal goCheck (check_p m) ⟨?_⟩
  refine go ⟨?_⟩
  by_cases hm : lcheck m = 0
  case neg =>
    refine go ⟨?_⟩
    exact fin
  refine go ⟨?_⟩
  refine cal goLPut (lput_p [] l (by simp)) ⟨?_⟩
  refine go ⟨?_⟩
  refine cal goLPut (lput_p [] m (by simp)) ⟨?_⟩
  refine go ⟨?_⟩
  have e1 : octets (cutLen none (some (min ((lput [] l).length : Int) (lput [] m).length)) (lput [] l).length) (cutF none (fU8 (lput [] l))) = (lput [] l).take (min (lput [] l).length (lput [] m).length) := by
    rw [octets_cut rfl (by simp only [cutHi]; omega)]
    simp only [cutHi, cutLo, List.drop_zero]
    congr 1; omega
  have e2 : octets (cutLen none (some (min ((lput [] l).length : Int) (lput [] m).length)) (lput [] m).length) (cutF none (fU8 (lput [] m))) = (lput [] m).take (min (lput [] l).length (lput [] m).length) := by
    rw [octets_cut rfl (by simp only [cutHi]; omega)]
    simp only [cutHi, cutLo, List.drop_zero]
    congr 1; omega
  have hb : ((lput [] l).take (min (lput [] l).length (lput [] m).length) == (lput [] m).take (min (lput [] l).length (lput [] m).length)) = decide (l = m) := by
    rw [Bool.eq_iff_iff, beq_iff_eq, decide_eq_true_iff]
    exact ⟨lput_apart hl hm, fun h => by rw [h]⟩
  rw [e1, e2, hb]
  refine cal goSame (same_p l m) ⟨?_⟩
  refine go ⟨?_⟩
  exact fin
theorem lc_a (l : Leaf) : lcheck ⟨[], l.cred, l.source, l.parent⟩ = 5 := rfl
theorem lc_no {l : Leaf} (h : ¬ (l.enc.length ≤ 200 ∧ l.cred.length ≤ 200 ∧ l.parent.length ≤ 200 ∧ 1 ≤ l.source ∧ l.source ≤ 3 ∧ (l.source ≠ 3 → l.parent = []))) : lcheck l ≠ 0 := fun hc => h (lcheck_ok hc)
theorem lc_3 {l : Leaf} (h : lcheck l = 0) : lcheck ⟨l.enc, l.cred, 3, l.parent⟩ = 0 := by
  have h0 : l.enc.length ≠ 0 := fun h0 => by unfold lcheck at h; rw [if_pos h0] at h; cases h
  obtain ⟨h1, h2, h3, _⟩ := lcheck_ok h
  unfold lcheck
  rw [if_neg h0, if_neg (by simp only; omega), if_neg (by simp), if_neg (by simp)]
set_option maxHeartbeats 2000000 in
theorem lwrong_law (l : Leaf) (n : Int) : APure Try.prog 8 [leafA l, int n] (.lit (.bool true)) [] := by
  refine apure_of hT Try.func8 rfl ?_
  simp only [Try.ntmps8, List.length_cons, List.length_nil, Nat.reduceAdd, Nat.reduceSub, List.replicate, List.cons_append, List.nil_append]
  refine go ⟨?_⟩
  refine cal goLAwake lawake_p ⟨?_⟩
  refine go ⟨?_⟩
  refine cal goFew (few_p l) ⟨?_⟩
  refine go ⟨?_⟩
  cases h1 : lfew l
  · refine go ⟨?_⟩
    exact fin
  have a1 := check_p ⟨[], l.cred, l.source, l.parent⟩
  rw [lc_a] at a1
  have a2 := lput_p [] ⟨[], l.cred, l.source, l.parent⟩ (by simp)
  rw [lput_bad (by rw [lc_a]; decide)] at a2
  have hb : lcheck ⟨l.enc, List.replicate 201 0, l.source, l.parent⟩ ≠ 0 := lc_no (by simp)
  have b2 := lput_p [] ⟨l.enc, List.replicate 201 0, l.source, l.parent⟩ (by simp)
  rw [lput_bad hb] at b2
  have hd : lcheck ⟨l.enc, l.cred, 2, [1]⟩ ≠ 0 := lc_no (by simp)
  refine go ⟨?_⟩
  refine al_tell (tells_thawObj 2 rfl rfl Nat.zero_lt_two rfl (by repeat' (first | exact trivial | exact Nat.le_refl _ | exact Nat.le_of_eq (Nat.zero_add _) | refine And.intro ?_ ?_))) ?_
  refine nz ⟨?_⟩
  refine al_tell (tells_thawObj 5 rfl rfl Nat.zero_lt_two rfl (by repeat' (first | exact trivial | exact Nat.le_refl _ | exact Nat.le_of_eq (Nat.zero_add _) | refine And.intro ?_ ?_))) ?_
  refine nz ⟨?_⟩
  by_cases hg : 1 ≤ n ∧ n ≤ 3
  · refine go ⟨?_⟩
    refine cal goCheck a1 ⟨?_⟩
    refine go ⟨?_⟩
    refine cal goLPut a2 ⟨?_⟩
    refine go ⟨?_⟩
    refine cal goLPut b2 ⟨?_⟩
    refine go ⟨?_⟩
    refine cal goCheck (check_p ⟨l.enc, List.replicate 201 0, l.source, l.parent⟩) ⟨?_⟩
    refine go ⟨?_⟩
    refine cal goCheck (check_p ⟨l.enc, l.cred, 2, [1]⟩) ⟨?_⟩
    refine go ⟨?_⟩
    refine cal goCheck (check_p l) ⟨?_⟩
    refine go ⟨?_⟩
    by_cases hl : lcheck l = 0
    · by_cases h3 : n = 3
      · have c3 := check_p ⟨l.enc, l.cred, 3, l.parent⟩
        rw [lc_3 hl] at c3
        subst h3
        refine go ⟨?_⟩
        refine cal goCheck c3 ⟨?_⟩
        refine go ⟨?_⟩
        exact fin
      · refine go ⟨?_⟩
        exact fin
    · refine go ⟨?_⟩
      exact fin
  · have hc : lcheck ⟨l.enc, l.cred, n, l.parent⟩ ≠ 0 := lc_no (fun h => hg ⟨h.2.2.2.1, h.2.2.2.2.1⟩)
    have c2 := lput_p [] ⟨l.enc, l.cred, n, l.parent⟩ (by simp)
    rw [lput_bad hc] at c2
    have hn : n < 1 ∨ n > 3 := by omega
    rcases hn with hn | hn
    all_goals
      refine go ⟨?_⟩
      refine cal goCheck a1 ⟨?_⟩
      refine go ⟨?_⟩
      refine cal goLPut a2 ⟨?_⟩
      refine go ⟨?_⟩
      refine cal goLPut b2 ⟨?_⟩
      refine go ⟨?_⟩
      refine cal goCheck (check_p ⟨l.enc, List.replicate 201 0, l.source, l.parent⟩) ⟨?_⟩
      refine go ⟨?_⟩
      refine cal goCheck (check_p ⟨l.enc, l.cred, 2, [1]⟩) ⟨?_⟩
      refine go ⟨?_⟩
      refine cal goCheck (check_p ⟨l.enc, l.cred, n, l.parent⟩) ⟨?_⟩
      refine go ⟨?_⟩
      refine cal goLPut c2 ⟨?_⟩
      refine go ⟨?_⟩
      refine cal goCheck (check_p l) ⟨?_⟩
      by_cases hl : lcheck l = 0
      · refine go ⟨?_⟩
        exact fin
      · refine go ⟨?_⟩
        exact fin
end Go.Proofs.Ytebkibhjfomcpaa
