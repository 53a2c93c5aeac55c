/- Layer 2: plain laws of numbers and octets. -/
import Derived.Test.YtebkibhjfomcpaaWire
namespace Go.Proofs.Ytebkibhjfomcpaa
open Go.RowKit
set_option linter.unusedVariables false
set_option linter.unusedSimpArgs false
def wahead (n : Int) : Int := if n < 64 then 1 else if n < 16384 then 2 else 4
theorem vsize_ahead {n : Int} (h0 : 0 ≤ n) (h1 : n ≤ 1073741823) : vsize n = wahead n := by
  unfold vsize wahead
  rw [if_neg (by omega)]
theorem putBytes_len {v : List UInt8} (h : v.length ≤ 1048576) : ((wputBytes [] v).length : Int) = wahead v.length + v.length := by
  unfold wputBytes
  rw [if_neg (by omega)]
  have := vput_len (v.length : Int)
  rw [vsize_ahead (by omega) (by omega)] at this
  simp only [List.nil_append, List.length_append]
  omega
theorem nby4 (n : Int) : nby n 4 = [u8of (n / 16777216), u8of (n / 65536), u8of (n / 256), u8of n] := by
  have h4 : wcount 4 = 4 := rfl
  simp only [nby, nbytes, h4, List.range_succ, List.range_zero, List.nil_append, List.map_append, List.map_cons, List.map_nil, List.cons_append]
  simp only [Nat.sub_zero, Nat.reduceMul, Nat.reduceSub, Int.reducePow]
  rw [Int.fdiv_eq_ediv_of_nonneg n (show (0 : Int) ≤ 16777216 by decide), Int.fdiv_eq_ediv_of_nonneg n (show (0 : Int) ≤ 65536 by decide), Int.fdiv_eq_ediv_of_nonneg n (show (0 : Int) ≤ 256 by decide), Int.fdiv_eq_ediv_of_nonneg n (show (0 : Int) ≤ 1 by decide), Int.ediv_one]
theorem wgetNum4 (n : Int) (t : List UInt8) (h0 : 0 ≤ n) (h1 : n < 4294967296) : wgetNum (nby n 4 ++ t) 4 = (n, t, 0) := by
  unfold wgetNum
  rw [nby4, show wcount 4 = 4 from rfl, if_neg (by simp)]
  simp only [List.cons_append, List.nil_append, List.take_succ_cons, List.take_zero, List.drop_succ_cons, List.drop_zero, Prod.mk.injEq, and_true]
  simp only [beNum, List.foldl_cons, List.foldl_nil, u8of_nat]
  omega
theorem wgetBytes_put (v t : List UInt8) (hv : v.length ≤ 1048576) : wgetBytes (wputBytes [] v ++ t) = (v, t, 0) := by
  have e : wputBytes [] v = vput v.length ++ v := by unfold wputBytes; rw [if_neg (by omega)]; simp
  have hz : vsize (v.length : Int) ≠ 0 := by rw [vsize_ahead (by omega) (by omega)]; unfold wahead; split; omega; split <;> omega
  unfold wgetBytes
  rw [e, List.append_assoc, vget_put _ _ hz]
  rw [if_neg (by simp), if_neg (by simp; omega), if_neg (by simp; omega)]
  simp
theorem wputBytes_app (b v : List UInt8) : wputBytes b v = b ++ wputBytes [] v := by
  unfold wputBytes
  split <;> simp
theorem wgetBytes_err (b : List UInt8) (h : (wgetBytes b).2.2 ≠ 0) : (wgetBytes b).1 = [] ∧ (wgetBytes b).2.1 = [] := by
  unfold wgetBytes at *
  split
  · exact ⟨rfl, rfl⟩
  · split
    · exact ⟨rfl, rfl⟩
    · split
      · exact ⟨rfl, rfl⟩
      · rename_i h1 h2 h3
        rw [if_neg h1, if_neg h2, if_neg h3] at h
        exact (h rfl).elim
theorem wputBytes_get (b : List UInt8) (h : (wgetBytes b).2.2 = 0) : wputBytes [] (wgetBytes b).1 ++ (wgetBytes b).2.1 = b := by
  have h0 := vget_nonneg b
  have h1 := vput_get b
  unfold wgetBytes at *
  generalize vget b = x at *
  obtain ⟨n, v, e⟩ := x
  simp only at *
  split at h
  · contradiction
  · split at h
    · simp at h
    · split at h
      · simp at h
      · rename_i g1 g2 g3
        rw [if_neg g1, if_neg g2, if_neg g3]
        obtain ⟨k1, k2⟩ := h1 (by simpa using g1)
        have hl : (v.take n.toNat).length = n.toNat := by rw [List.length_take]; omega
        unfold wputBytes
        simp only
        rw [if_neg (by omega), hl, Int.toNat_of_nonneg h0, List.nil_append, List.append_assoc, List.take_append_drop, k1]
theorem nby_be (l : List UInt8) (h : l.length = 4) : nby (beNum 0 l) 4 = l := by
  match l, h with
  | [a, b, c, d], _ =>
    have ha := a.toNat_lt
    have hb := b.toNat_lt
    have hc := c.toNat_lt
    have hd := d.toNat_lt
    rw [nby4]
    have e : beNum 0 [a, b, c, d] = a.toNat * 16777216 + b.toNat * 65536 + c.toNat * 256 + d.toNat := by simp [beNum]; omega
    rw [e, u8_eq (x := a) (by omega), u8_eq (x := b) (by omega), u8_eq (x := c) (by omega), u8_eq (x := d) (by omega)]
theorem and_low (x : Int) : ∃ m : Nat, IntKind.i64.wrap (BitVec.ofInt IntKind.i64.bits x &&& BitVec.ofInt IntKind.i64.bits 65535).toNat = m ∧ m < 65536 := by
  have h : (BitVec.ofInt IntKind.i64.bits x &&& BitVec.ofInt IntKind.i64.bits 65535).toNat ≤ 65535 := by
    rw [BitVec.toNat_and]
    exact Nat.le_trans Nat.and_le_right (by decide)
  exact ⟨_, by rw [IntKind.wrap_i64, Int.emod_eq_of_lt (by omega) (by omega)]; exact Int.add_sub_cancel _ _, by omega⟩
theorem tmod_nat (m k : Nat) : (m : Int).tmod k = ((m % k : Nat) : Int) := rfl
theorem wget_cut (v : List UInt8) (hv : v.length ≤ 1048576) (k : Nat) (hk : k < (wputBytes [] v).length) : wgetBytes ((wputBytes [] v).take k) = ([], [], 1) := by
  have e : wputBytes [] v = vput v.length ++ v := by unfold wputBytes; rw [if_neg (by omega)]; simp
  rw [e] at hk ⊢
  have hz : vsize (v.length : Int) ≠ 0 := by rw [vsize_ahead (by omega) (by omega)]; unfold wahead; split; omega; split <;> omega
  unfold wgetBytes
  by_cases h : k < (vput v.length).length
  · rw [List.take_append_of_le_length (by omega), vget_cut _ _ h]; rfl
  · have : (vput v.length ++ v).take k = vput v.length ++ v.take (k - (vput v.length).length) := by rw [List.take_append, List.take_of_length_le (by omega)]
    rw [this, vget_put _ _ hz]
    simp only [List.length_append] at hk
    rw [if_neg (by simp), if_neg (by simp; omega), if_pos (by simp; omega)]
end Go.Proofs.Ytebkibhjfomcpaa
