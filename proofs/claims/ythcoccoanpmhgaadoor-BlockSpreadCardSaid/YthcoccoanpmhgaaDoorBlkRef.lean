/- Layer 3, walked: the document's answer: turned, moved, Spread. -/
import Derived.Test.YthcoccoanpmhgaaDoorBlkMix
namespace Go.Proofs.YthcoccoanpmhgaaDoor
open Go.RowKit
set_option linter.unusedVariables false
set_option linter.unusedSimpArgs false
def rkn (k : Int) : UInt32 := UInt32.ofNat k.toNat
theorem rturned_calls (x : UInt32) (k : Int) (w : World) (h : k ∈ [(7 : Int), 18, 17, 19, 6, 11, 25, 2, 13, 22]) :
    Calls Tryd.prog 15 #[.int .u32 (wv x), .int .i64 k] w fun e w' => e = .returned (.int .u32 (wv (rotr x (rkn k)))) ∧ w = w' := by
  simp only [List.mem_cons, List.not_mem_nil, or_false] at h
  rcases h with rfl | rfl | rfl | rfl | rfl | rfl | rfl | rfl | rfl | rfl
  all_goals
    go_enter Tryd.func15, Tryd.ntmps15
    go_wp2
    go_ret
    exact ⟨rfl, rfl⟩
theorem rmoved_calls (x : UInt32) (k : Int) (w : World) (h : k ∈ [(3 : Int), 10]) :
    Calls Tryd.prog 16 #[.int .u32 (wv x), .int .i64 k] w fun e w' => e = .returned (.int .u32 (wv (x >>> rkn k))) ∧ w = w' := by
  simp only [List.mem_cons, List.not_mem_nil, or_false] at h
  rcases h with rfl | rfl
  all_goals
    go_enter Tryd.func16, Tryd.ntmps16
    go_wp2
    go_ret
    exact ⟨rfl, rfl⟩
theorem rfirst_calls (w : World) : Calls Tryd.prog 9 #[] w fun e w' => e = .returned (.agg (u32s firsts)) ∧ Below w.heap.size w w' := by
  have hz := Lib.hid (zero_of_info w8_info).1
  go_enter Tryd.func9, Tryd.ntmps9
  go_wp2_with (first
    | (refine wpList_alloc_arr rfl rfl hz.out ?_; intro g2 w2 hg2 r2 hb2)
    | (refine wpList_store_arr (cells := u32s firsts) rfl rfl rfl rfl r2 (size_of w8_info) rfl (u32s_one _) ?_; intro w3 r3 hu3))
  exact ret_arr rfl rfl r3 w8_und (size_of w8_info) ⟨rfl, below_upd hb2 hu3 hg2⟩
def wd (b : List UInt8) (j : Nat) : UInt32 := (b.getD (4 * j) 0).toUInt32 <<< 24 + (b.getD (4 * j + 1) 0).toUInt32 <<< 16 + (b.getD (4 * j + 2) 0).toUInt32 <<< 8 + (b.getD (4 * j + 3) 0).toUInt32
def pw2 (b : List UInt8) (t : Nat) : List UInt32 := (List.range 64).map fun j => if j < t then wd b j else 0
theorem pw2_len (b : List UInt8) (t : Nat) : (pw2 b t).length = 64 := by simp [pw2]
theorem pw2_zero (b : List UInt8) : pw2 b 0 = List.replicate 64 0 := by unfold pw2; simp; rfl
theorem pw2_succ (b : List UInt8) (t : Nat) : pw2 b (t + 1) = (pw2 b t).set t (wd b t) := by
  apply List.ext_getElem
  · simp [pw2]
  · intro j h1 h2
    rw [List.getElem_set]
    simp only [pw2, List.getElem_map, List.getElem_range]
    by_cases hj : t = j
    · subst hj; simp
    · rw [if_neg hj]
      by_cases hlt : j < t
      · rw [if_pos (by omega), if_pos hlt]
      · rw [if_neg (by omega), if_neg hlt]
theorem u32_or_add (a b : UInt32) (n : Nat) (ha : a.toNat % 2 ^ n = 0) (hb : b.toNat < 2 ^ n) : a ||| b = a + b := by
  apply UInt32.toNat_inj.1
  have h1 : a.toNat = a.toNat / 2 ^ n * 2 ^ n := by have := Nat.div_add_mod a.toNat (2 ^ n); rw [ha] at this; rw [Nat.mul_comm]; omega
  have h2 := Nat.two_pow_add_eq_or_of_lt hb (a.toNat / 2 ^ n)
  rw [UInt32.toNat_or, UInt32.toNat_add]
  rw [Nat.mul_comm] at h1
  rw [h1, ← h2, ← h1]
  have := (a ||| b).toNat_lt
  rw [UInt32.toNat_or, h1, ← h2, ← h1] at this
  omega
theorem be4 (p q r s : UInt8) : beU [p, q, r, s] = p.toUInt32 <<< 24 + q.toUInt32 <<< 16 + r.toUInt32 <<< 8 + s.toUInt32 := by
  have hp := p.toNat_lt; have hq := q.toNat_lt; have hr := r.toNat_lt; have hs := s.toNat_lt
  unfold beU
  simp only [List.foldl_cons, List.foldl_nil]
  apply UInt32.toNat_inj.1
  have e0 : ((0 : UInt32) <<< 8 ||| p.toUInt32) = p.toUInt32 := by simp
  rw [e0]
  rw [u32_or_add (p.toUInt32 <<< 8) q.toUInt32 8 (by simp [UInt32.toNat_shiftLeft, Nat.shiftLeft_eq] <;> omega) (by simpa using hq)]
  rw [u32_or_add _ r.toUInt32 8 (by simp [UInt32.toNat_shiftLeft, Nat.shiftLeft_eq] <;> omega) (by simpa using hr)]
  rw [u32_or_add _ s.toUInt32 8 (by simp [UInt32.toNat_shiftLeft, Nat.shiftLeft_eq] <;> omega) (by simpa using hs)]
  simp [UInt32.toNat_shiftLeft, Nat.shiftLeft_eq, UInt32.toNat_add]
  omega
theorem pw2_done (b : List UInt8) (hb : b.length = 64) : pw2 b 16 = pw b 64 := by
  apply List.ext_getElem
  · simp [pw, pw2]
  · intro j h1 h2
    simp only [pw, pw2, List.getElem_map, List.getElem_range]
    rw [show b.take 64 = b from List.take_of_length_le (by omega)]
    by_cases hj : j < 16
    · rw [if_pos hj, wd, ← be4]
      congr 1
      have h0 : 4 * j + 3 < b.length := by omega
      apply List.ext_getElem
      · simp; omega
      · intro i h3 h4
        simp at h3
        rw [List.getElem_take, List.getElem_drop]
        have : i = 0 ∨ i = 1 ∨ i = 2 ∨ i = 3 := by omega
        rcases this with rfl | rfl | rfl | rfl <;> simp [List.getD_eq_getElem?_getD, List.getElem?_eq_getElem (show 4 * j < b.length by omega), List.getElem?_eq_getElem (show 4 * j + 1 < b.length by omega), List.getElem?_eq_getElem (show 4 * j + 2 < b.length by omega), List.getElem?_eq_getElem h0]
    · rw [if_neg hj, List.drop_eq_nil_of_le (by omega)]; rfl
end Go.Proofs.YthcoccoanpmhgaaDoor
