/- WireNums, walked. -/
import Derived.Test.YthdckgcalooipaaWIs
namespace Go.Proofs.Ythdckgcalooipaa
open Go.RowKit
attribute [local irreducible] IterP RoundP ADr AL AW Then InBlock RetP Tells APure ACall
set_option linter.unusedVariables false
set_option linter.unusedSimpArgs false
set_option maxRecDepth 100000
theorem beNum_snoc (n : Int) (l : List UInt8) (x : UInt8) : beNum n (l ++ [x]) = beNum n l * 256 + x.toNat := by simp [beNum]
theorem nbytes_be (n : Int) (c : Nat) : ∀ i, i ≤ c → beNum 0 (nbytes n c i) = (n / 2 ^ (8 * (c - i))) % 2 ^ (8 * i)
  | 0, _ => by simp [nbytes, beNum, Int.emod_one]
  | i + 1, h => by
    have e : nbytes n c (i + 1) = nbytes n c i ++ [u8of (n.fdiv (2 ^ (8 * (c - 1 - i))))] := by simp [nbytes, List.range_succ]
    rw [e, beNum_snoc, nbytes_be n c i (by omega), u8of_nat, Int.fdiv_eq_ediv_of_nonneg _ (Int.le_of_lt (Int.pow_pos (by decide)))]
    obtain ⟨d, rfl⟩ : ∃ d, c = d + i + 1 := ⟨c - i - 1, by omega⟩
    rw [show d + i + 1 - 1 - i = d by omega, show d + i + 1 - (i + 1) = d by omega, show d + i + 1 - i = d + 1 by omega]
    have h1 : n / (2 : Int) ^ (8 * (d + 1)) = n / 2 ^ (8 * d) / 256 := by
      rw [Int.ediv_ediv_of_nonneg (Int.le_of_lt (Int.pow_pos (by decide)))]
      congr 1
      rw [show 8 * (d + 1) = 8 * d + 8 by omega, Int.pow_add]; rfl
    rw [h1]
    generalize n / (2 : Int) ^ (8 * d) = m
    rw [show 8 * (i + 1) = 8 + 8 * i by omega, Int.pow_add]
    show m / 256 % 2 ^ (8 * i) * 256 + m % 256 = m % (256 * 2 ^ (8 * i))
    generalize (2 : Int) ^ (8 * i) = p
    rw [Int.emod_def m (256 * p), ← Int.ediv_ediv_of_nonneg (by decide), Int.emod_def (m / 256) p]
    have hm := Int.emod_add_mul_ediv m 256
    have : 256 * p * (m / 256 / p) = 256 * (p * (m / 256 / p)) := Int.mul_assoc _ _ _
    rw [this]
    omega
theorem wgetNum_nby (n k : Int) : wgetNum (nby n k) k = (n % 2 ^ (8 * wcount k), [], 0) := by
  unfold wgetNum
  have hl := nby_len n k
  rw [if_neg (by omega), List.take_of_length_le (by omega), List.drop_of_length_le (by omega), nbytes_be n (wcount k) (wcount k) (Nat.le_refl _)]
  simp
theorem nby_drop (n : Int) {c : Nat} (hc : c ≤ 4) : nbytes n c c = (nbytes n 4 4).drop (4 - c) := by
  unfold nbytes
  apply List.ext_getElem
  · simp; omega
  · intro i h1 h2
    simp at h1
    simp only [List.getElem_map, List.getElem_range, List.getElem_drop]
    rw [show 4 - 1 - (4 - c + i) = c - 1 - i by omega]
theorem dig4 (n : Int) (hn : 0 ≤ n ∧ n < 4294967296) : ∃ a b c d, n / 16777216 % 256 = a ∧ n / 65536 % 256 = b ∧ n / 256 % 256 = c ∧ n % 256 = d ∧ 0 ≤ a ∧ 0 ≤ b ∧ b < 256 ∧ 0 ≤ c ∧ c < 256 ∧ 0 ≤ d ∧ d < 256 ∧ n = a * 16777216 + b * 65536 + c * 256 + d := by
  refine ⟨_, _, _, _, rfl, rfl, rfl, rfl, ?_, ?_, ?_, ?_, ?_, ?_, ?_, ?_⟩ <;> omega
theorem nby_less {n m : Int} (hn : 0 ≤ n ∧ n < 4294967296) (hm : 0 ≤ m ∧ m < 4294967296) : Op.bytesLess (nby n 4) (nby m 4) = decide (n < m) := by
  rw [nby4, nby4]
  simp only [less_cons, less_nil, u8_lt_iff (u8of_nat _) (u8of_nat _), u8_beq_iff (u8of_nat _) (u8of_nat _)]
  obtain ⟨a, b, c, d, e1, e2, e3, e4, h⟩ := dig4 n hn
  obtain ⟨a', b', c', d', e1', e2', e3', e4', h'⟩ := dig4 m hm
  rw [e1, e2, e3, e4, e1', e2', e3', e4', Bool.eq_iff_iff]
  clear e1 e2 e3 e4 e1' e2' e3' e4'
  simp only [Bool.or_eq_true, Bool.and_eq_true, decide_eq_true_eq, Bool.false_eq_true, and_false, or_false]
  omega
theorem nums_law (n m k : Int) : APure Try.prog 3 [int n, int m, int k] (.lit (.bool true)) [] := by
  refine apure_of hT Try.func3 rfl ?_
  simp only [Try.ntmps3, List.length_cons, List.length_nil, Nat.reduceAdd, Nat.reduceSub, List.replicate, List.cons_append, List.nil_append]
  refine go ⟨?_⟩
  refine cal goAwake awake_p ⟨?_⟩
  refine go ⟨?_⟩
  have e1 : ∀ k : Int, [] ++ nbytes n (max 1 (min k 4)).toNat (max 1 (min k 4)).toNat = nby n k := fun _ => rfl
  have c1 := putNum_p [] n k (by simp)
  have c2 := putNum_p [] n 4 (by simp)
  rw [e1] at c1 c2
  have hl := nby_len n k
  have hl4 : (nby n 4).length = 4 := by rw [nby_len]; rfl
  have hc : (wcount k : Int) = min (max k 1) 4 := by unfold wcount; omega
  have hc4 : 1 ≤ wcount k ∧ wcount k ≤ 4 := by omega
  rw [← hc]
  refine cal goPutNum (c1.data rfl (Nat.le_of_eq (Nat.zero_add _))) ⟨?_⟩
  refine go ⟨?_⟩
  refine cal goPutNum (c2.data rfl (Nat.le_of_eq (Nat.zero_add _))) ⟨?_⟩
  refine go ⟨?_⟩
  rw [octets_cut rfl (Nat.le_refl _)]
  have e2 : List.drop (cutLo (some (IntKind.i64.wrap (4 - (wcount k : Int))))) ((nby n 4).take (cutHi none (nby n 4).length)) = nby n k := by
    simp only [cutHi, cutLo, List.take_length]
    rw [show nby n 4 = nbytes n 4 4 from rfl, show nby n k = nbytes n (wcount k) (wcount k) from rfl, nby_drop n hc4.2, IntKind.wrap_i64]
    congr 1; omega
  rw [e2]
  simp only [hl4]
  refine go ⟨?_⟩
  have d1 := getNum_p (nby n k) k
  rw [wgetNum_nby] at d1
  refine cal goGetNum d1 ⟨?_⟩
  refine go ⟨?_⟩
  have e3 : min (IntKind.u64.wrap (IntKind.i64.wrap (8 * (wcount k : Int)))).toNat IntKind.i64.bits = 8 * wcount k := by simp only [IntKind.wrap_i64, IntKind.wrap_u64, IntKind.bits]; omega
  have hw : wcount k = 1 ∨ wcount k = 2 ∨ wcount k = 3 ∨ wcount k = 4 := by omega
  have e4 : IntKind.i64.wrap (IntKind.i64.wrap (1 * 2 ^ min (IntKind.u64.wrap (IntKind.i64.wrap (8 * (wcount k : Int)))).toNat IntKind.i64.bits) - 1) = 2 ^ (8 * wcount k) - 1 := by
    rw [e3]; rcases hw with h | h | h | h <;> rw [h] <;> simp only [IntKind.wrap_i64] <;> decide
  rw [e4, and_mask n _ (by omega)]
  refine go ⟨?_⟩
  by_cases h1 : n < 0
  · refine go ⟨?_⟩
    exact fin
  by_cases h2 : m < 0
  · refine go ⟨?_⟩
    exact fin
  by_cases h3 : n ≥ 4294967296
  · refine go ⟨?_⟩
    exact fin
  by_cases h4 : m ≥ 4294967296
  · refine go ⟨?_⟩
    exact fin
  have e5 : [] ++ nbytes m (max 1 (min (4 : Int) 4)).toNat (max 1 (min (4 : Int) 4)).toNat = nby m 4 := rfl
  have c3 := putNum_p [] m 4 (by simp)
  rw [e5] at c3
  refine go ⟨?_⟩
  refine cal goPutNum c3 ⟨?_⟩
  refine go ⟨?_⟩
  have e6 : (octets 4 (fU8 (nby n 4))) = nby n 4 := by
    have := octets_fU8 (nby n 4)
    rwa [hl4] at this
  try rw [e6]
  rw [nby_less (n := n) (m := m) (by omega) (by omega)]
  refine go ⟨?_⟩
  exact fin
end Go.Proofs.Ythdckgcalooipaa
