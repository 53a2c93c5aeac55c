/- Layer 2: plain laws. -/
import Derived.Test.YthdckgcalooipaaWRun
namespace Go.Proofs.Ythdckgcalooipaa
open Go.RowKit
set_option linter.unusedVariables false
set_option linter.unusedSimpArgs false
theorem nby4 (n : Int) : nby n 4 = [u8of (n / 16777216), u8of (n / 65536), u8of (n / 256), u8of n] := by
  have h4 : wcount 4 = 4 := rfl
  simp only [nby, nbytes, h4, List.range_succ, List.range_zero, List.nil_append, List.map_append, List.map_cons, List.map_nil, List.cons_append]
  simp only [Nat.sub_zero, Nat.reduceMul, Nat.reduceSub, Int.reducePow]
  rw [Int.fdiv_eq_ediv_of_nonneg n (show (0 : Int) ≤ 16777216 by decide), Int.fdiv_eq_ediv_of_nonneg n (show (0 : Int) ≤ 65536 by decide), Int.fdiv_eq_ediv_of_nonneg n (show (0 : Int) ≤ 256 by decide), Int.fdiv_eq_ediv_of_nonneg n (show (0 : Int) ≤ 1 by decide), Int.ediv_one]
theorem wgetNum4 (n : Int) (t : List UInt8) (h0 : 0 ≤ n) (h1 : n < 4294967296) : wgetNum (nby n 4 ++ t) 4 = (n, t, 0) := by
  unfold wgetNum
  rw [nby4, show wcount 4 = 4 from rfl, if_neg (by simp)]
  simp only [List.cons_append, List.nil_append, List.take_succ_cons, List.take_zero, List.drop_succ_cons, List.drop_zero, Prod.mk.injEq, and_true]
  simp only [beNum, List.foldl_cons, List.foldl_nil, u8of_nat]
  omega
theorem wgetFlag_put (t : Bool) (r : List UInt8) : wgetFlag (nby (bif t then 1 else 0) 1 ++ r) = (t, r, 0) := by
  cases t
  · rw [show nby (bif false then 1 else 0) 1 = [0] by decide +kernel]; rfl
  · rw [show nby (bif true then 1 else 0) 1 = [1] by decide +kernel]; rfl
theorem wgetBytes_put (v t : List UInt8) (hv : v.length ≤ 1048576) : wgetBytes (wputBytes [] v ++ t) = (v, t, 0) := by
  have e : wputBytes [] v = vput v.length ++ v := by unfold wputBytes; rw [if_neg (by omega)]; simp
  have hz : vsize (v.length : Int) ≠ 0 := by rw [vsize_ahead (by omega) (by omega)]; unfold wahead; split; omega; split <;> omega
  unfold wgetBytes
  rw [e, List.append_assoc, vget_put _ _ hz]
  rw [if_neg (by simp), if_neg (by simp; omega), if_neg (by simp; omega)]
  simp
theorem nums4_cat : ∀ (l : List Int), (∀ n ∈ l, 0 ≤ n ∧ n < 4294967296) → nums4 (cat4 l) l.length = l
  | [], _ => rfl
  | n :: l, h => by
    have ih := nums4_cat l fun m hm => h m (by simp [hm])
    have hn := h n (by simp)
    have e : cat4 (n :: l) = nby n 4 ++ cat4 l := by simp [cat4]
    have hl : (nby n 4).length = 4 := by rw [nby_len]; rfl
    have g := wgetNum4 n (cat4 l) hn.1 hn.2
    unfold wgetNum at g
    rw [show wcount 4 = 4 from rfl, if_neg (by simp [hl])] at g
    injection g with g _
    unfold nums4 at ih ⊢
    rw [e, List.length_cons, List.range_succ_eq_map, List.map_cons, List.map_map]
    refine List.cons_eq_cons.2 ⟨by simpa using g, ?_⟩
    · conv => rhs; rw [← ih]
      refine map_congr' fun i _ => ?_
      simp only [Function.comp, Nat.succ_eq_add_one]
      congr 2
      rw [show (i + 1) * 4 = (nby n 4).length + i * 4 by rw [hl]; omega, List.drop_append, List.drop_of_length_le (by omega)]
      simp
theorem wgetNums_put (l : List Int) (t : List UInt8) (hl : l.length ≤ 200000) (h : ∀ n ∈ l, 0 ≤ n ∧ n < 4294967296) : wgetNums (wputBytes [] (cat4 l) ++ t) = (l, t, 0) := by
  unfold wgetNums
  rw [wgetBytes_put _ _ (by rw [cat4_len]; omega)]
  have hc := cat4_len l
  rw [if_neg (by simp), if_neg (by simp only; omega)]
  simp only [hc, show 4 * l.length / 4 = l.length by omega, nums4_cat l h]
end Go.Proofs.Ythdckgcalooipaa
