/- Layer 7 (leaf), walked: what is wrong with a leaf. -/
import Derived.Test.YtebkibhjfomcpaaWPureB
namespace Go.Proofs.Ytebkibhjfomcpaa
open Go.RowKit
attribute [local irreducible] EachR AO IterP RoundP ADr AL AW Then InBlock RetP Tells APure ACall
set_option linter.unusedVariables false
set_option linter.unusedSimpArgs false
set_option maxRecDepth 100000
/-- A leaf. -/
structure Leaf where
  enc : List UInt8
  cred : List UInt8
  source : Int
  parent : List UInt8
  deriving DecidableEq
def lfC (l : Leaf) : List AV := [bytes l.enc, bytes l.cred, int l.source, bytes l.parent]
abbrev leafA (l : Leaf) : AV := .agg [bytes l.enc, bytes l.cred, int l.source, bytes l.parent]
def lsrc (n : Int) : Bool := decide (1 ≤ n ∧ n ≤ 3)
def lcheck (l : Leaf) : Int :=
  if l.enc.length = 0 then 5 else if l.enc.length > 200 ∨ l.cred.length > 200 ∨ l.parent.length > 200 then 4 else if ¬ (1 ≤ l.source ∧ l.source ≤ 3) then 7 else if l.source ≠ 3 ∧ l.parent.length > 0 then 2 else 0
theorem source_p (n : Int) : APure Try.prog 24 [int n] (.lit (.bool (lsrc n))) [] := by
  refine apure_of hT Try.func24 rfl ?_
  simp only [Try.ntmps24, List.length_cons, List.length_nil, Nat.reduceAdd, Nat.reduceSub, List.replicate, List.cons_append, List.nil_append]
  unfold lsrc
  exact auto
theorem goSource : GoFn Try.prog 24 := ⟨_, _, Try.func24, by kernel_rfl, rfl⟩
theorem equal_p (a b : List UInt8) : APure Try.prog 36 [bytes a, bytes b] (.lit (.bool (a == b))) [] := by
  refine apure_of hT Try.func36 rfl ?_
  simp only [Try.ntmps36, List.length_cons, List.length_nil, Nat.reduceAdd, Nat.reduceSub, List.replicate, List.cons_append, List.nil_append]
  refine go ⟨?_⟩
  exact fin
theorem goEqual : GoFn Try.prog 36 := ⟨_, _, Try.func36, by kernel_rfl, rfl⟩
theorem long_p (a : List UInt8) : APure Try.prog 29 [bytes a] (.lit (.bool (decide (a.length > 200)))) [] := by
  refine apure_of hT Try.func29 rfl ?_
  simp only [Try.ntmps29, List.length_cons, List.length_nil, Nat.reduceAdd, Nat.reduceSub, List.replicate, List.cons_append, List.nil_append]
  refine go ⟨?_⟩
  exact fin
theorem goLong : GoFn Try.prog 29 := ⟨_, _, Try.func29, by kernel_rfl, rfl⟩
/-- Lists of octets, in memory. -/
def eBB : Enc (List UInt8) := ⟨1, [], fun x => [bytes x]⟩
theorem indexFunc_p {g : Nat} {ca : List AV} {p : List UInt8 → Bool} (xs : List (List UInt8)) (hl : xs.length ≤ 1000000000000) (hg : GoFn Try.prog g) (hca : ca.all (idfree 4) = true) (hp : ∀ x ∈ xs, APure Try.prog g ([bytes x] ++ ca) (.lit (.bool (p x))) []) :
    APure Try.prog 41 [slE eBB xs, .fn (.func g) [] ca] (int (match xs.findIdx? p with | some i => i | none => -1)) [] := by
  refine apure_of hT Try.func41 rfl ?_
  simp only [Try.ntmps41, List.length_cons, List.length_nil, Nat.reduceAdd, Nat.reduceSub, List.replicate, List.cons_append, List.nil_append]
  refine go ⟨?_⟩
  refine lp (fun i : {i : Nat // i ≤ xs.length ∧ ∀ x ∈ xs.take i, p x = false} => [(8, int i.1)]) (fun _ => []) (fun i => xs.length - i.1) ⟨0, by simp⟩ ?_
  rintro ⟨i, hi, hn⟩
  refine go ⟨?_⟩
  refine aw_if rfl (fun h => ?_) (fun h => ?_)
  · have hlt : i < xs.length := by omega
    have ex : xs.getD i [] = xs[i] := by simp [List.getD_eq_getElem?_getD, hlt]
    refine go ⟨?_⟩
    refine al_pci rfl rfl rfl hg rfl hca (hp xs[i] (List.getElem_mem _)) (.cons (.eq (congrArg bytes ex)) .nil) ?_
    refine go ⟨?_⟩
    refine aw_if rfl (fun h => ?_) (fun h => ?_)
    · have hf : xs.findIdx? p = some i := List.findIdx?_eq_some_iff_getElem.2 ⟨hlt, h, fun j hj => by simp [hn xs[j] (List.mem_take_iff_getElem.2 ⟨j, by omega, rfl⟩)]⟩
      rw [hf]
      refine go ⟨?_⟩
      exact fin
    · refine go ⟨?_⟩
      refine je ⟨⟨i + 1, by omega, fun x hx => ?_⟩, by simp only; omega, ?_⟩
      · rw [List.take_succ_eq_append_getElem hlt] at hx
        rcases List.mem_append.1 hx with hx | hx
        · exact hn x hx
        · rw [List.mem_singleton.1 hx]; simpa using h
      · exact tel
  · obtain rfl : i = xs.length := by omega
    rw [List.take_length] at hn
    rw [List.findIdx?_eq_none_iff.2 hn]
    refine go ⟨?_⟩
    exact fin
theorem goIndexFunc : GoFn Try.prog 41 := ⟨_, _, Try.func41, by kernel_rfl, rfl⟩
theorem any_idx {α : Type} (p : α → Bool) (xs : List α) : decide ((match xs.findIdx? p with | some i => (i : Int) | none => -1) ≥ 0) = xs.any p := by
  cases h : xs.findIdx? p with
  | none =>
    rw [List.findIdx?_eq_none_iff] at h
    rw [List.any_eq_false.2 fun x hx => by simp [h x hx]]
    rfl
  | some i =>
    obtain ⟨hi, h1, _⟩ := List.findIdx?_eq_some_iff_getElem.1 h
    rw [List.any_eq_true.2 ⟨xs[i], List.getElem_mem _, h1⟩]
    exact decide_eq_true (Int.natCast_nonneg i)
theorem containsFunc_p {g : Nat} {ca : List AV} {p : List UInt8 → Bool} (xs : List (List UInt8)) (hl : xs.length ≤ 1000000000000) (hg : GoFn Try.prog g) (hca : ca.all (idfree 3) = true) (hp : ∀ x ∈ xs, APure Try.prog g ([bytes x] ++ ca) (.lit (.bool (p x))) []) :
    APure Try.prog 30 [slE eBB xs, .fn (.func g) [] ca] (.lit (.bool (xs.any p))) [] := by
  refine apure_of hT Try.func30 rfl ?_
  simp only [Try.ntmps30, List.length_cons, List.length_nil, Nat.reduceAdd, Nat.reduceSub, List.replicate, List.cons_append, List.nil_append]
  refine go ⟨?_⟩
  refine al_pci rfl rfl rfl goIndexFunc (show (true && ((true && ca.all (idfree 3)) && true)) = true by rw [hca]; rfl) rfl (args'' := [slE eBB xs, .fn (.func g) [] ca]) (indexFunc_p xs hl hg (idfrees_up hca) hp) (.cons (.refl _) (.cons (.refl _) .nil)) ?_
  refine go ⟨?_⟩
  rw [any_idx p xs]
  exact fin
theorem goContainsFunc : GoFn Try.prog 30 := ⟨_, _, Try.func30, by kernel_rfl, rfl⟩
theorem check_p (l : Leaf) : APure Try.prog 14 [leafA l] (int (lcheck l)) [] := by
  refine apure_of hT Try.func14 rfl ?_
  simp only [Try.ntmps14, List.length_cons, List.length_nil, Nat.reduceAdd, Nat.reduceSub, List.replicate, List.cons_append, List.nil_append]
  unfold lcheck
  refine go ⟨?_⟩
  refine aw_if rfl (fun h => ?_) (fun h => ?_)
  · rw [if_pos (by omega)]
    refine go ⟨?_⟩
    exact fin
  rw [if_neg (by omega)]
  have c1 := containsFunc_p (p := fun a => decide (a.length > 200)) [l.enc, l.cred, l.parent] (by simp) goLong rfl (ca := []) fun x _ => long_p x
  refine go ⟨?_⟩
  refine cal goContainsFunc c1 ⟨?_⟩
  refine go ⟨?_⟩
  refine aw_if rfl (fun h => ?_) (fun h => ?_)
  · rw [if_pos (by omega)]
    refine go ⟨?_⟩
    exact fin
  rw [if_neg (by omega)]
  refine go ⟨?_⟩
  refine cal goSource (source_p l.source) ⟨?_⟩
  unfold lsrc
  refine go ⟨?_⟩
  refine aw_if rfl (fun h => ?_) (fun h => ?_)
  · rw [if_pos (by omega)]
    refine go ⟨?_⟩
    exact fin
  rw [if_neg (by omega)]
  by_cases h1 : l.source = 3
  · rw [if_neg (by omega)]
    refine go ⟨?_⟩
    exact fin
  · by_cases h2 : l.parent.length > 0
    · rw [if_pos ⟨h1, h2⟩]
      refine go ⟨?_⟩
      exact fin
    · rw [if_neg (by omega)]
      refine go ⟨?_⟩
      exact fin
theorem goCheck : GoFn Try.prog 14 := ⟨_, _, Try.func14, by kernel_rfl, rfl⟩
theorem leaf_eq {a b : Leaf} : a = b ↔ a.source = b.source ∧ a.enc = b.enc ∧ a.cred = b.cred ∧ a.parent = b.parent := by
  cases a; cases b; simp only [Leaf.mk.injEq]
  exact ⟨fun ⟨h1, h2, h3, h4⟩ => ⟨h3, h1, h2, h4⟩, fun ⟨h3, h1, h2, h4⟩ => ⟨h1, h2, h3, h4⟩⟩
theorem same_p (a b : Leaf) : APure Try.prog 18 [leafA a, leafA b] (.lit (.bool (decide (a = b)))) [] := by
  refine apure_of hT Try.func18 rfl ?_
  simp only [Try.ntmps18, List.length_cons, List.length_nil, Nat.reduceAdd, Nat.reduceSub, List.replicate, List.cons_append, List.nil_append]
  simp only [leaf_eq]
  exact auto2 goEqual equal_p trivial trivial
theorem goSame : GoFn Try.prog 18 := ⟨_, _, Try.func18, by kernel_rfl, rfl⟩
end Go.Proofs.Ytebkibhjfomcpaa
