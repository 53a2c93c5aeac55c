/- Layer 7 (leaf), walked: what is put; the document's answers. -/
import Derived.Test.YtebkibhjfomcpaaLeaf
import Derived.Test.YtebkibhjfomcpaaWRef
namespace Go.Proofs.Ytebkibhjfomcpaa
open Go.RowKit
attribute [local irreducible] EachR AO IterP RoundP ADr AL AW Then InBlock RetP Tells APure ACall
set_option linter.unusedVariables false
set_option linter.unusedSimpArgs false
set_option maxRecDepth 100000
theorem wputBytes_le (b v : List UInt8) : (wputBytes b v).length ≤ b.length + 1048580 := by
  have := vput_len4 (v.length : Int)
  unfold wputBytes
  split
  · omega
  · simp only [List.length_append]; omega
def lput (b : List UInt8) (l : Leaf) : List UInt8 :=
  if lcheck l ≠ 0 then b else if l.source = 3 then wputBytes (wputBytes (wputBytes b l.enc) l.cred ++ nby l.source 1) l.parent else wputBytes (wputBytes b l.enc) l.cred ++ nby l.source 1
theorem lput_p (b : List UInt8) (l : Leaf) (hb : b.length ≤ 140737470000000) : APure Try.prog 16 [bytes b, leafA l] (bytes (lput b l)) [] := by
  refine apure_of hT Try.func16 rfl ?_
  simp only [Try.ntmps16, List.length_cons, List.length_nil, Nat.reduceAdd, Nat.reduceSub, List.replicate, List.cons_append, List.nil_append]
  unfold lput
  refine go ⟨?_⟩
  refine cal goCheck (check_p l) ⟨?_⟩
  refine go ⟨?_⟩
  refine aw_if rfl (fun h => ?_) (fun h => ?_)
  · rw [if_pos h]
    refine go ⟨?_⟩
    refine cal goClone ((clone_p b (by omega)).data rfl (Nat.le_of_eq (Nat.zero_add _))) ⟨?_⟩
    refine go ⟨?_⟩
    exact fin
  rw [if_neg h]
  have h1 := wputBytes_le b l.enc
  have h2 := wputBytes_le (wputBytes b l.enc) l.cred
  have h3 : (nby l.source 1).length = 1 := by rw [nby_len]; rfl
  refine go ⟨?_⟩
  refine cal goPutBytes ((putBytes_p b l.enc (by omega)).data rfl (Nat.le_of_eq (Nat.zero_add _))) ⟨?_⟩
  refine go ⟨?_⟩
  refine cal goPutBytes ((putBytes_p (wputBytes b l.enc) l.cred (by omega)).data rfl (Nat.le_of_eq (Nat.zero_add _))) ⟨?_⟩
  refine go ⟨?_⟩
  have c1 := putNum_p (wputBytes (wputBytes b l.enc) l.cred) l.source 1 (by omega)
  rw [show nbytes l.source (max 1 (min (1 : Int) 4)).toNat (max 1 (min (1 : Int) 4)).toNat = nby l.source 1 from rfl] at c1
  refine cal goPutNum (c1.data rfl (Nat.le_of_eq (Nat.zero_add _))) ⟨?_⟩
  refine go ⟨?_⟩
  refine aw_if rfl (fun h => ?_) (fun h => ?_)
  · rw [if_pos h]
    refine go ⟨?_⟩
    refine cal goPutBytes ((putBytes_p (wputBytes (wputBytes b l.enc) l.cred ++ nby l.source 1) l.parent (by simp only [List.length_append]; omega)).data rfl (Nat.le_of_eq (Nat.zero_add _))) ⟨?_⟩
    refine go ⟨?_⟩
    exact fin
  · rw [if_neg h]
    refine go ⟨?_⟩
    exact fin
theorem goLPut : GoFn Try.prog 16 := ⟨_, _, Try.func16, by kernel_rfl, rfl⟩
def lfew (l : Leaf) : Bool := decide (IntKind.i64.wrap (IntKind.i64.wrap ((l.enc.length : Int) + l.cred.length) + l.parent.length) ≤ 1000)
theorem few_p (l : Leaf) : APure Try.prog 10 [leafA l] (.lit (.bool (lfew l))) [] := by
  refine apure_of hT Try.func10 rfl ?_
  simp only [Try.ntmps10, List.length_cons, List.length_nil, Nat.reduceAdd, Nat.reduceSub, List.replicate, List.cons_append, List.nil_append]
  refine go ⟨?_⟩
  exact fin
theorem goFew : GoFn Try.prog 10 := ⟨_, _, Try.func10, by kernel_rfl, rfl⟩
theorem rcheck_p (l : Leaf) : APure Try.prog 15 [leafA l] (int (lcheck l)) [] := by
  refine apure_of hT Try.func15 rfl ?_
  simp only [Try.ntmps15, List.length_cons, List.length_nil, Nat.reduceAdd, Nat.reduceSub, List.replicate, List.cons_append, List.nil_append]
  unfold lcheck
  exact auto
theorem goRCheck : GoFn Try.prog 15 := ⟨_, _, Try.func15, by kernel_rfl, rfl⟩
theorem rsame_p (a b : Leaf) : APure Try.prog 13 [leafA a, leafA b] (.lit (.bool (decide (a = b)))) [] := by
  refine apure_of hT Try.func13 rfl ?_
  simp only [Try.ntmps13, List.length_cons, List.length_nil, Nat.reduceAdd, Nat.reduceSub, List.replicate, List.cons_append, List.nil_append]
  simp only [leaf_eq]
  exact auto
theorem goRSame : GoFn Try.prog 13 := ⟨_, _, Try.func13, by kernel_rfl, rfl⟩
theorem rlput_p (b : List UInt8) (l : Leaf) (hb : b.length ≤ 140737470000000) : APure Try.prog 17 [bytes b, leafA l] (bytes (lput b l)) [] := by
  refine apure_of hT Try.func17 rfl ?_
  simp only [Try.ntmps17, List.length_cons, List.length_nil, Nat.reduceAdd, Nat.reduceSub, List.replicate, List.cons_append, List.nil_append]
  unfold lput
  refine go ⟨?_⟩
  refine app (fU8 b) hT rfl rfl rfl rfl (fun k hk => fU8_app (xs := []) rfl hk) ?_
  refine go ⟨?_⟩
  refine cal goRCheck (rcheck_p l) ⟨?_⟩
  refine go ⟨?_⟩
  refine aw_if rfl (fun h => ?_) (fun h => ?_)
  · rw [if_pos h]
    refine go ⟨?_⟩
    exact fin
  rw [if_neg h]
  have h1 := wputBytes_le b l.enc
  have h2 := wputBytes_le (wputBytes b l.enc) l.cred
  have h3 : (nby l.source 1).length = 1 := by rw [nby_len]; rfl
  refine go ⟨?_⟩
  refine cal goRPutBytes ((rputBytes_p b l.enc (by omega)).data rfl (Nat.le_of_eq (Nat.zero_add _))) ⟨?_⟩
  refine go ⟨?_⟩
  refine cal goRPutBytes ((rputBytes_p (wputBytes b l.enc) l.cred (by omega)).data rfl (Nat.le_of_eq (Nat.zero_add _))) ⟨?_⟩
  refine go ⟨?_⟩
  refine cal goRPutNum ((rputNum_p (wputBytes (wputBytes b l.enc) l.cred) l.source 1 (by omega)).data rfl (Nat.le_of_eq (Nat.zero_add _))) ⟨?_⟩
  refine go ⟨?_⟩
  refine aw_if rfl (fun h => ?_) (fun h => ?_)
  · rw [if_pos h]
    refine go ⟨?_⟩
    refine cal goRPutBytes ((rputBytes_p (wputBytes (wputBytes b l.enc) l.cred ++ nby l.source 1) l.parent (by simp only [List.length_append]; omega)).data rfl (Nat.le_of_eq (Nat.zero_add _))) ⟨?_⟩
    refine go ⟨?_⟩
    exact fin
  · rw [if_neg h]
    refine go ⟨?_⟩
    exact fin
theorem goRLPut : GoFn Try.prog 17 := ⟨_, _, Try.func17, by kernel_rfl, rfl⟩
/-- The leaf that octets begin with. -/
def lget1 (l : Leaf) (r : List UInt8) : Leaf × List UInt8 × Int := if lcheck l ≠ 0 then (⟨[], [], 0, []⟩, [], lcheck l) else (l, r, 0)
def lget2 (l : Leaf) (r : List UInt8) : Leaf × List UInt8 × Int :=
  if l.source ≠ 3 then lget1 l r else if (wgetBytes r).2.2 ≠ 0 then (⟨[], [], 0, []⟩, [], (wgetBytes r).2.2) else lget1 { l with parent := (wgetBytes r).1 } (wgetBytes r).2.1
def lget3 (l : Leaf) (r : List UInt8) : Leaf × List UInt8 × Int :=
  if (wgetNum r 1).2.2 ≠ 0 then (⟨[], [], 0, []⟩, [], (wgetNum r 1).2.2) else if ¬ (1 ≤ (wgetNum r 1).1 ∧ (wgetNum r 1).1 ≤ 3) then (⟨[], [], 0, []⟩, [], 7) else lget2 { l with source := (wgetNum r 1).1 } (wgetNum r 1).2.1
def lget4 (l : Leaf) (r : List UInt8) : Leaf × List UInt8 × Int :=
  if (wgetBytes r).2.2 ≠ 0 then (⟨[], [], 0, []⟩, [], (wgetBytes r).2.2) else lget3 { l with cred := (wgetBytes r).1 } (wgetBytes r).2.1
def lget5 (l : Leaf) (r : List UInt8) : Leaf × List UInt8 × Int :=
  if (wgetBytes r).2.2 ≠ 0 then (⟨[], [], 0, []⟩, [], (wgetBytes r).2.2) else lget4 { l with enc := (wgetBytes r).1 } (wgetBytes r).2.1
abbrev noLeaf : Leaf := ⟨[], [], 0, []⟩
def lget (b : List UInt8) : Leaf × List UInt8 × Int := lget5 noLeaf b
theorem rlget_p (b : List UInt8) : APure Try.prog 12 [bytes b] (.tup [leafA (lget b).1, bytes (lget b).2.1, int (lget b).2.2]) [] := by
  refine apure_of hT Try.func12 rfl ?_
  simp only [Try.ntmps12, List.length_cons, List.length_nil, Nat.reduceAdd, Nat.reduceSub, List.replicate, List.cons_append, List.nil_append]
  unfold lget lget5
  refine go ⟨?_⟩
  refine cal goRGetBytes (rgetBytes_p b) ⟨?_⟩
  generalize wgetBytes b = x at *
  obtain ⟨v1, r1, e1⟩ := x
  simp only
  refine go ⟨?_⟩
  refine aw_if rfl (fun h => ?_) (fun h => ?_)
  · rw [if_pos h]
    refine go ⟨?_⟩
    exact fin
  rw [if_neg h]
  refine go ⟨?_⟩
  unfold lget4
  refine cal goRGetBytes (rgetBytes_p r1) ⟨?_⟩
  generalize wgetBytes r1 = x at *
  obtain ⟨v2, r2, e2⟩ := x
  simp only
  refine go ⟨?_⟩
  refine aw_if rfl (fun h => ?_) (fun h => ?_)
  · rw [if_pos h]
    refine go ⟨?_⟩
    exact fin
  rw [if_neg h]
  refine go ⟨?_⟩
  unfold lget3
  refine cal goRGetNum (rgetNum_p r2 1) ⟨?_⟩
  generalize wgetNum r2 1 = x at *
  obtain ⟨n3, r3, e3⟩ := x
  simp only
  refine go ⟨?_⟩
  refine aw_if rfl (fun h => ?_) (fun h => ?_)
  · rw [if_pos h]
    refine go ⟨?_⟩
    exact fin
  rw [if_neg h]
  refine go ⟨?_⟩
  by_cases h1 : n3 < 1
  · rw [if_pos (by omega)]
    refine go ⟨?_⟩
    exact fin
  by_cases h2 : n3 > 3
  · rw [if_pos (by omega)]
    refine go ⟨?_⟩
    exact fin
  rw [if_neg (by omega)]
  refine go ⟨?_⟩
  unfold lget2
  by_cases h3 : n3 = 3
  · rw [if_neg (by simpa using h3)]
    refine go ⟨?_⟩
    refine cal goRGetBytes (rgetBytes_p r3) ⟨?_⟩
    generalize wgetBytes r3 = x at *
    obtain ⟨v4, r4, e4⟩ := x
    simp only
    refine go ⟨?_⟩
    refine aw_if rfl (fun h => ?_) (fun h => ?_)
    · rw [if_pos h]
      refine go ⟨?_⟩
      exact fin
    rw [if_neg h]
    refine go ⟨?_⟩
    refine cal goRCheck (rcheck_p ⟨v1, v2, n3, v4⟩) ⟨?_⟩
    refine go ⟨?_⟩
    unfold lget1
    refine aw_if rfl (fun h => ?_) (fun h => ?_)
    · rw [if_pos h]
      refine go ⟨?_⟩
      refine cal goRCheck (rcheck_p ⟨v1, v2, n3, v4⟩) ⟨?_⟩
      refine go ⟨?_⟩
      exact fin
    · rw [if_neg h]
      refine go ⟨?_⟩
      exact fin
  · rw [if_pos h3]
    refine go ⟨?_⟩
    refine cal goRCheck (rcheck_p ⟨v1, v2, n3, []⟩) ⟨?_⟩
    refine go ⟨?_⟩
    unfold lget1
    refine aw_if rfl (fun h => ?_) (fun h => ?_)
    · rw [if_pos h]
      refine go ⟨?_⟩
      refine cal goRCheck (rcheck_p ⟨v1, v2, n3, []⟩) ⟨?_⟩
      refine go ⟨?_⟩
      exact fin
    · rw [if_neg h]
      refine go ⟨?_⟩
      exact fin
theorem goRLGet : GoFn Try.prog 12 := ⟨_, _, Try.func12, by kernel_rfl, rfl⟩
end Go.Proofs.Ytebkibhjfomcpaa
