/- Layer 7 (leaf), walked: what is got. -/
import Derived.Test.YtebkibhjfomcpaaLeaf2
namespace Go.Proofs.Ytebkibhjfomcpaa
open Go.RowKit
attribute [local irreducible] EachR AO IterP RoundP ADr AL AW Then InBlock RetP Tells APure ACall
set_option linter.unusedVariables false
set_option linter.unusedSimpArgs false
set_option maxRecDepth 100000
theorem octetsOf_box : BoxC Try.prog 19 20 39 := by
  intro p v w
  go_enter Try.func19, Try.ntmps19
  go_wp2
  go_ret
  exact ⟨rfl, rfl⟩
theorem goOctets : GoFn Try.prog 19 := ⟨_, _, Try.func19, by kernel_rfl, rfl⟩
theorem goOct : GoFn Try.prog 20 := ⟨_, _, Try.func20, by kernel_rfl, rfl⟩
theorem goFrom : GoFn Try.prog 22 := ⟨_, _, Try.func22, by kernel_rfl, rfl⟩
theorem goPar : GoFn Try.prog 25 := ⟨_, _, Try.func25, by kernel_rfl, rfl⟩
theorem goChk : GoFn Try.prog 26 := ⟨_, _, Try.func26, by kernel_rfl, rfl⟩
/-- What leaf.Get has in memory: the rest of the octets, the leaf. -/
abbrev lgH (b : List UInt8) (l : Leaf) : List AObj :=
  [{ T := 22, sz := 1, n := 1, f := fun x => [bytes b], box := true },
   { T := 24, sz := 4, n := 1, f := fun x => [.lit (.slice none 0 0), .lit (.slice none 0 0), .lit (.int .i64 0), .lit (.slice none 0 0)], box := true },
   { T := 24, sz := 4, n := 1, f := fun x => [bytes l.enc, bytes l.cred, int l.source, bytes l.parent], box := true },
   { T := 43, sz := 1, n := 1, f := fun x => [.fn (.func 19) [] [.ptr 0 1 0 0]], pure := false, box := true },
   { T := 39, sz := 1, n := 1, f := fun x => [.ptr 2 4 0 0], pure := false, box := true },
   { T := 39, sz := 1, n := 1, f := fun x => [.ptr 2 4 0 1], pure := false, box := true },
   { T := 40, sz := 1, n := 5, f := getC [[.fn (.func 20) [] [.ptr 0 1 0 0, .ptr 4 1 0 0]], [.fn (.func 20) [] [.ptr 0 1 0 0, .ptr 5 1 0 0]],
      [.fn (.func 22) [] [.ptr 0 1 0 0, .ptr 2 4 0 0]], [.fn (.func 25) [] [.ptr 2 4 0 0, .ptr 3 1 0 0]], [.fn (.func 26) [] [.ptr 2 4 0 0]]], pure := false }]
theorem enc_c (b : List UInt8) (l : Leaf) : ACall Try.prog 20 [.ptr 0 1 0 0, .ptr 4 1 0 0] (lgH b l) fun r H' fg => r = int (wgetBytes b).2.2 ∧ H' = lgH (wgetBytes b).2.1 { l with enc := (wgetBytes b).1 } ∧ fg = [] := by
  refine acall_of hT Try.func20 rfl ?_
  simp only [Try.ntmps20, List.length_cons, List.length_nil, Nat.reduceAdd, Nat.reduceSub, List.replicate, List.cons_append, List.nil_append]
  simp only [lgH]
  refine go ⟨?_⟩
  refine cal goGetBytes (getBytes_p b) ⟨?_⟩
  generalize wgetBytes b = x at *
  obtain ⟨v, r, e⟩ := x
  simp only
  refine go ⟨?_⟩
  exact reta rfl trivial ⟨rfl, rfl, rfl⟩ (Tells.refl _)
theorem cred_c (b : List UInt8) (l : Leaf) : ACall Try.prog 20 [.ptr 0 1 0 0, .ptr 5 1 0 0] (lgH b l) fun r H' fg => r = int (wgetBytes b).2.2 ∧ H' = lgH (wgetBytes b).2.1 { l with cred := (wgetBytes b).1 } ∧ fg = [] := by
  refine acall_of hT Try.func20 rfl ?_
  simp only [Try.ntmps20, List.length_cons, List.length_nil, Nat.reduceAdd, Nat.reduceSub, List.replicate, List.cons_append, List.nil_append]
  simp only [lgH]
  refine go ⟨?_⟩
  refine cal goGetBytes (getBytes_p b) ⟨?_⟩
  generalize wgetBytes b = x at *
  obtain ⟨v, r, e⟩ := x
  simp only
  refine go ⟨?_⟩
  exact reta rfl trivial ⟨rfl, rfl, rfl⟩ (Tells.refl _)
theorem parb_c (b : List UInt8) (l : Leaf) : ACall Try.prog 20 [.ptr 0 1 0 0, .ptr 7 1 0 0] (lgH b l ++ [{ T := 39, sz := 1, n := 1, f := fun x => [.ptr 2 4 0 3], pure := false, box := true }]) fun r H' fg => r = int (wgetBytes b).2.2 ∧ H' = lgH (wgetBytes b).2.1 { l with parent := (wgetBytes b).1 } ++ [{ T := 39, sz := 1, n := 1, f := fun x => [.ptr 2 4 0 3], pure := false, box := true }] ∧ fg = [] := by
  refine acall_of hT Try.func20 rfl ?_
  simp only [Try.ntmps20, List.length_cons, List.length_nil, Nat.reduceAdd, Nat.reduceSub, List.replicate, List.cons_append, List.nil_append]
  try simp only [lgH, List.cons_append, List.nil_append]
  refine go ⟨?_⟩
  refine cal goGetBytes (getBytes_p b) ⟨?_⟩
  generalize wgetBytes b = x at *
  obtain ⟨v, r, e⟩ := x
  simp only
  refine go ⟨?_⟩
  exact reta rfl trivial ⟨rfl, rfl, rfl⟩ (Tells.refl _)
theorem from_c (b : List UInt8) (l : Leaf) : ACall Try.prog 22 [.ptr 0 1 0 0, .ptr 2 4 0 0] (lgH b l) fun r H' fg => r = int (if (wgetNum b 1).2.2 = 0 ∧ ¬ (1 ≤ (wgetNum b 1).1 ∧ (wgetNum b 1).1 ≤ 3) then 7 else (wgetNum b 1).2.2) ∧ H' = lgH (wgetNum b 1).2.1 { l with source := (wgetNum b 1).1 } ∧ fg = [] := by
  refine acall_of hT Try.func22 rfl ?_
  simp only [Try.ntmps22, List.length_cons, List.length_nil, Nat.reduceAdd, Nat.reduceSub, List.replicate, List.cons_append, List.nil_append]
  simp only [lgH]
  refine go ⟨?_⟩
  refine cal goGetNum (getNum_p b 1) ⟨?_⟩
  generalize wgetNum b 1 = x at *
  obtain ⟨n, r, e⟩ := x
  simp only
  refine go ⟨?_⟩
  by_cases h1 : e = 0
  · refine go ⟨?_⟩
    refine cal goSource (source_p n) ⟨?_⟩
    unfold lsrc
    refine go ⟨?_⟩
    refine aw_if rfl (fun h => ?_) (fun h => ?_)
    · rw [if_pos ⟨h1, by omega⟩]
      refine go ⟨?_⟩
      exact reta rfl trivial ⟨rfl, rfl, rfl⟩ (Tells.refl _)
    · rw [if_neg (by omega)]
      refine go ⟨?_⟩
      exact reta rfl trivial ⟨rfl, rfl, rfl⟩ (Tells.refl _)
  · rw [if_neg (by omega)]
    refine go ⟨?_⟩
    exact reta rfl trivial ⟨rfl, rfl, rfl⟩ (Tells.refl _)
theorem chk_c (b : List UInt8) (l : Leaf) : ACall Try.prog 26 [.ptr 2 4 0 0] (lgH b l) fun r H' fg => r = int (lcheck l) ∧ H' = lgH b l ∧ fg = [] := by
  refine acall_of hT Try.func26 rfl ?_
  simp only [Try.ntmps26, List.length_cons, List.length_nil, Nat.reduceAdd, Nat.reduceSub, List.replicate, List.cons_append, List.nil_append]
  simp only [lgH]
  refine go ⟨?_⟩
  refine cal goCheck (check_p l) ⟨?_⟩
  refine go ⟨?_⟩
  exact reta rfl trivial ⟨rfl, rfl, rfl⟩ (Tells.refl _)
theorem mkb_c (b : List UInt8) (l : Leaf) : ACall Try.prog 19 [.ptr 2 4 0 3, .ptr 0 1 0 0] (lgH b l) fun r H' fg => r = .fn (.func 20) [] [.ptr 0 1 0 0, .ptr 7 1 0 0] ∧ H' = lgH b l ++ [{ T := 39, sz := 1, n := 1, f := fun x => [.ptr 2 4 0 3], pure := false, box := true }] ∧ fg = [] := by
  refine acall_of hT Try.func19 rfl ?_
  simp only [Try.ntmps19, List.length_cons, List.length_nil, Nat.reduceAdd, Nat.reduceSub, List.replicate, List.cons_append, List.nil_append]
  simp only [lgH]
  refine go ⟨?_⟩
  exact reta rfl trivial ⟨rfl, rfl, rfl⟩ (Tells.refl _)
theorem par_c (b : List UInt8) (l : Leaf) : ACall Try.prog 25 [.ptr 2 4 0 0, .ptr 3 1 0 0] (lgH b l) fun r H' fg => r = int (if l.source = 3 then (wgetBytes b).2.2 else 0) ∧ H' = (if l.source = 3 then lgH (wgetBytes b).2.1 { l with parent := (wgetBytes b).1 } else lgH b l) ∧ fg = [] := by
  refine acall_of hT Try.func25 rfl ?_
  simp only [Try.ntmps25, List.length_cons, List.length_nil, Nat.reduceAdd, Nat.reduceSub, List.replicate, List.cons_append, List.nil_append]
  simp only [lgH]
  refine go ⟨?_⟩
  refine aw_if rfl (fun h => ?_) (fun h => ?_)
  · rw [if_neg h, if_neg h]
    refine go ⟨?_⟩
    exact reta rfl trivial ⟨rfl, rfl, rfl⟩ (Tells.refl _)
  have h : l.source = 3 := by simpa using h
  rw [if_pos h, if_pos h]
  refine go ⟨?_⟩
  refine al_callg rfl rfl rfl goOctets (mkb_c b l) ?_
  refine go ⟨?_⟩
  refine al_callg rfl rfl rfl goOct (parb_c b l) ?_
  generalize wgetBytes b = x at *
  obtain ⟨v, r, e⟩ := x
  simp only
  refine go ⟨?_⟩
  exact reta rfl trivial ⟨rfl, rfl, rfl⟩ ((Tells.sel [0, 1, 2, 3, 4, 5, 6] rfl rfl).trans (Tells.le (by exact les) (by exact leh)))
/-- What is left to be read, from step i on. -/
def lcont : Nat → Leaf → List UInt8 → Leaf × List UInt8 × Int
  | 0 => lget5
  | 1 => lget4
  | 2 => lget3
  | 3 => lget2
  | 4 => lget1
  | _ => fun l r => (l, r, 0)
theorem lgetw_p (b : List UInt8) : APure Try.prog 11 [bytes b] (.tup [leafA (lget b).1, bytes (lget b).2.1, int (lget b).2.2]) [] := by
  refine apure_of hT Try.func11 rfl ?_
  simp only [Try.ntmps11, List.length_cons, List.length_nil, Nat.reduceAdd, Nat.reduceSub, List.replicate, List.cons_append, List.nil_append]
  refine go ⟨?_⟩
  refine ad_box rfl rfl rfl goOctets rfl octetsOf_box ?_
  refine go ⟨?_⟩
  refine ad_box rfl rfl rfl goOctets rfl octetsOf_box ?_
  refine go ⟨?_⟩
  refine lp (fun i : {p : Nat × List UInt8 × Leaf // p.1 ≤ 5 ∧ lget b = lcont p.1 p.2.2 p.2.1} => [(28, int i.1.1)]) (fun i => lgH i.1.2.1 i.1.2.2) (fun i => 5 - i.1.1) ⟨(0, b, noLeaf), by omega, rfl⟩ ?_
  rintro ⟨⟨i, b', l⟩, hi, he⟩
  simp only at hi he ⊢
  refine go ⟨?_⟩
  refine aw_if rfl (fun h => ?_) (fun h => ?_)
  · have hi5 : i = 0 ∨ i = 1 ∨ i = 2 ∨ i = 3 ∨ i = 4 := by omega
    clear h
    rcases hi5 with rfl | rfl | rfl | rfl | rfl
    · simp only [lcont, lget5] at he
      refine go ⟨?_⟩
      refine al_callg rfl rfl rfl goOct (enc_c b' l) ?_
      generalize wgetBytes b' = x at *
      obtain ⟨v, r, e⟩ := x
      simp only at he ⊢
      refine go ⟨?_⟩
      refine aw_if rfl (fun h => ?_) (fun h => ?_)
      · rw [if_pos h] at he
        rw [he]
        refine go ⟨?_⟩
        exact fin
      · rw [if_neg h] at he
        refine go ⟨?_⟩
        refine je ⟨⟨(1, r, { l with enc := v }), by omega, he⟩, by simp only; omega, ?_⟩
        exact tel
    · simp only [lcont, lget4] at he
      refine go ⟨?_⟩
      refine al_callg rfl rfl rfl goOct (cred_c b' l) ?_
      generalize wgetBytes b' = x at *
      obtain ⟨v, r, e⟩ := x
      simp only at he ⊢
      refine go ⟨?_⟩
      refine aw_if rfl (fun h => ?_) (fun h => ?_)
      · rw [if_pos h] at he
        rw [he]
        refine go ⟨?_⟩
        exact fin
      · rw [if_neg h] at he
        refine go ⟨?_⟩
        refine je ⟨⟨(2, r, { l with cred := v }), by omega, he⟩, by simp only; omega, ?_⟩
        exact tel
    · simp only [lcont, lget3] at he
      refine go ⟨?_⟩
      refine al_callg rfl rfl rfl goFrom (from_c b' l) ?_
      generalize wgetNum b' 1 = x at *
      obtain ⟨n, r, e⟩ := x
      simp only at he ⊢
      by_cases h1 : e = 0
      · rw [if_neg (by simpa using h1)] at he
        by_cases h2 : 1 ≤ n ∧ n ≤ 3
        · rw [if_neg (by simpa using h2)] at he
          rw [if_neg (by simp [h2]), h1]
          refine go ⟨?_⟩
          refine je ⟨⟨(3, r, { l with source := n }), by omega, he⟩, by simp only; omega, ?_⟩
          exact tel
        · rw [if_pos h2] at he
          rw [if_pos ⟨h1, h2⟩, he]
          refine go ⟨?_⟩
          exact fin
      · rw [if_pos h1] at he
        rw [if_neg (by simp [h1]), he]
        refine go ⟨?_⟩
        exact fin
    · simp only [lcont, lget2] at he
      refine go ⟨?_⟩
      refine al_callg rfl rfl rfl goPar (par_c b' l) ?_
      by_cases h1 : l.source = 3
      · rw [if_neg (by simpa using h1)] at he
        rw [if_pos h1, if_pos h1]
        generalize wgetBytes b' = x at *
        obtain ⟨v, r, e⟩ := x
        simp only at he ⊢
        refine go ⟨?_⟩
        refine aw_if rfl (fun h => ?_) (fun h => ?_)
        · rw [if_pos h] at he
          rw [he]
          refine go ⟨?_⟩
          exact fin
        · rw [if_neg h] at he
          refine go ⟨?_⟩
          refine je ⟨⟨(4, r, { l with parent := v }), by omega, he⟩, by simp only; omega, ?_⟩
          exact tel
      · rw [if_pos h1] at he
        rw [if_neg h1, if_neg h1]
        refine go ⟨?_⟩
        refine je ⟨⟨(4, b', l), by omega, he⟩, by simp only; omega, ?_⟩
        exact tel
    · simp only [lcont, lget1] at he
      refine go ⟨?_⟩
      refine al_callg rfl rfl rfl goChk (chk_c b' l) ?_
      refine go ⟨?_⟩
      refine aw_if rfl (fun h => ?_) (fun h => ?_)
      · rw [if_pos h] at he
        rw [he]
        refine go ⟨?_⟩
        exact fin
      · rw [if_neg h] at he
        refine go ⟨?_⟩
        refine je ⟨⟨(5, b', l), by omega, he⟩, by simp only; omega, ?_⟩
        exact tel
  · obtain rfl : i = 5 := by omega
    simp only [lcont] at he
    rw [he]
    refine go ⟨?_⟩
    exact ordfin
theorem goLGet : GoFn Try.prog 11 := ⟨_, _, Try.func11, by kernel_rfl, rfl⟩
end Go.Proofs.Ytebkibhjfomcpaa
