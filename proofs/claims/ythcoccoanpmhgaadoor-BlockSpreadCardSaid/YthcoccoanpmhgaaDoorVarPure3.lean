/- Layer 1: order, and numbers one behind the other. -/
import Derived.Test.YthcoccoanpmhgaaDoorVarPure2
namespace Go.Proofs.YthcoccoanpmhgaaDoor
set_option linter.unusedVariables false
set_option linter.unusedSimpArgs false
theorem less_nil : Op.bytesLess [] [] = false := rfl
theorem less_cons (a b : UInt8) (x y : List UInt8) : Op.bytesLess (a :: x) (b :: y) = (a < b || (a == b && Op.bytesLess x y)) := rfl
theorem u8_lt_iff {a b : UInt8} {n m : Int} (ha : (a.toNat : Int) = n) (hb : (b.toNat : Int) = m) : (decide (a < b)) = decide (n < m) := by
  rw [decide_eq_decide, UInt8.lt_iff_toNat_lt]; omega
theorem u8_beq_iff {a b : UInt8} {n m : Int} (ha : (a.toNat : Int) = n) (hb : (b.toNat : Int) = m) : (a == b) = decide (n = m) := by
  rw [Bool.eq_iff_iff, beq_iff_eq, decide_eq_true_eq, ← UInt8.toNat_inj]; omega
theorem digits4 (n : Int) (h0 : 0 ≤ n) (h1 : n ≤ 1073741823) : ∃ a b c d, (128 + n / 16777216) % 256 = 128 + a ∧ (n / 65536) % 256 = b ∧ (n / 256) % 256 = c ∧ n % 256 = d ∧ 0 ≤ b ∧ b < 256 ∧ 0 ≤ c ∧ c < 256 ∧ 0 ≤ d ∧ d < 256 ∧ n = a * 16777216 + b * 65536 + c * 256 + d :=
  ⟨_, _, _, _, by omega, rfl, rfl, rfl, by omega, by omega, by omega, by omega, by omega, by omega, show n = (n / 16777216) * 16777216 + (n / 65536) % 256 * 65536 + (n / 256) % 256 * 256 + n % 256 by omega⟩
theorem vput_less {n m : Int} (hn : vsize n ≠ 0) (hs : vsize n = vsize m) : Op.bytesLess (vput n) (vput m) = decide (n < m) := by
  have hm : vsize m ≠ 0 := by rw [← hs]; exact hn
  rcases vput_cases n hn with ⟨a0, a1, a2, a3⟩ | ⟨a0, a1, a2, a3⟩ | ⟨a0, a1, a2, a3⟩ <;> rcases vput_cases m hm with ⟨b0, b1, b2, b3⟩ | ⟨b0, b1, b2, b3⟩ | ⟨b0, b1, b2, b3⟩ <;> (try (rw [a2, b2] at hs; cases hs)) <;> rw [a3, b3] <;>
    simp only [less_cons, less_nil, u8_lt_iff (u8of_nat _) (u8of_nat _), u8_beq_iff (u8of_nat _) (u8of_nat _)] <;> rw [Bool.eq_iff_iff] <;> simp only [Bool.or_eq_true, Bool.and_eq_true, decide_eq_true_eq, Bool.false_eq_true, and_false, or_false]
  · omega
  · omega
  · obtain ⟨a, b, c, d, e1, e2, e3, e4, x1, x2, x3, x4, x5, x6, x7⟩ := digits4 n (by omega) a1
    obtain ⟨a', b', c', d', f1, f2, f3, f4, y1, y2, y3, y4, y5, y6, y7⟩ := digits4 m (by omega) b1
    rw [e1, e2, e3, e4, f1, f2, f3, f4]
    omega
theorem vput_head {n m : Int} (hn : vsize n ≠ 0) (hs : vsize n < vsize m) : ∃ x r y q, vput n = x :: r ∧ vput m = y :: q ∧ x.toNat < y.toNat := by
  have h0 : vsize n > 0 := by rcases vput_cases n hn with ⟨a0, a1, a2, a3⟩ | ⟨a0, a1, a2, a3⟩ | ⟨a0, a1, a2, a3⟩ <;> omega
  have hm : vsize m ≠ 0 := by omega
  rcases vput_cases n hn with ⟨a0, a1, a2, a3⟩ | ⟨a0, a1, a2, a3⟩ | ⟨a0, a1, a2, a3⟩ <;> rcases vput_cases m hm with ⟨b0, b1, b2, b3⟩ | ⟨b0, b1, b2, b3⟩ | ⟨b0, b1, b2, b3⟩ <;> (try (exfalso; omega)) <;> rw [a3, b3] <;>
    refine ⟨_, _, _, _, rfl, rfl, ?_⟩ <;> (have h1 := u8of_nat n) <;> (have h2 := u8of_nat (64 + m / 256)) <;> (have h3 := u8of_nat (128 + m / 16777216)) <;> (have h4 := u8of_nat (64 + n / 256)) <;> omega
theorem vsize_mono {n m : Int} (hm : vsize m ≠ 0) (h0 : 0 ≤ n) (h : n ≤ m) : vsize n ≤ vsize m := by
  unfold vsize at *
  (repeat' split) <;> (repeat' split at hm) <;> omega
def cat (l : List Int) : List UInt8 := (l.map vput).flatten
theorem cat_snoc (l : List Int) (j : Nat) (h : j < l.length) : cat (l.take (j + 1)) = cat (l.take j) ++ vput l[j] := by
  unfold cat
  rw [List.take_succ_eq_append_getElem h]
  simp only [List.map_append, List.map_cons, List.map_nil, List.flatten_append, List.flatten_cons, List.flatten_nil, List.append_nil]
theorem vput_len4 (n : Int) : (vput n).length ≤ 4 := by
  by_cases h : vsize n = 0
  · rw [(vput_none h).1]; simp
  · rcases vput_cases n h with ⟨_, _, _, h2⟩ | ⟨_, _, _, h2⟩ | ⟨_, _, _, h2⟩ <;> rw [h2] <;> simp
theorem cat_len : ∀ (l : List Int), (cat l).length ≤ 4 * l.length
  | [] => by simp [cat]
  | x :: l => by
    have h1 := cat_len l
    have h2 := vput_len4 x
    simp only [cat, List.map_cons, List.flatten_cons, List.length_append, List.length_cons] at *
    omega
theorem cat_drop (l : List Int) (j : Nat) (h : j < l.length) : cat (l.drop j) = vput l[j] ++ cat (l.drop (j + 1)) := by
  unfold cat
  rw [List.drop_eq_getElem_cons h]
  simp only [List.map_cons, List.flatten_cons]
end Go.Proofs.YthcoccoanpmhgaaDoor
