/- Layer 1, the laws as they are of lists of octets. -/
import Derived.Test.YthcoccoanpmhgaaDoorVarPure
namespace Go.Proofs.YthcoccoanpmhgaaDoor
set_option linter.unusedVariables false
set_option linter.unusedSimpArgs false
theorem u8of_lt {n : Int} (h0 : 0 ≤ n) (h1 : n < 256) : ((u8of n).toNat : Int) = n := by rw [u8of_nat]; omega
theorem vput_cases (n : Int) (h : vsize n ≠ 0) : (0 ≤ n ∧ n < 64 ∧ vsize n = 1 ∧ vput n = [u8of n]) ∨ (64 ≤ n ∧ n < 16384 ∧ vsize n = 2 ∧ vput n = [u8of (64 + n / 256), u8of n]) ∨
    (16384 ≤ n ∧ n ≤ 1073741823 ∧ vsize n = 4 ∧ vput n = [u8of (128 + n / 16777216), u8of (n / 65536), u8of (n / 256), u8of n]) := by
  unfold vsize vput at *
  by_cases h0 : n < 0 ∨ n > 1073741823
  · rw [if_pos h0] at h; exact absurd rfl h
  · by_cases h1 : n < 64
    · left; simp [h0, h1]; omega
    · by_cases h2 : n < 16384
      · right; left; simp [h0, h1, h2]; omega
      · right; right; simp [h0, h1, h2]; omega
theorem vput_none {n : Int} (h : vsize n = 0) : vput n = [] ∧ (n < 0 ∨ 1073741823 < n) := by
  unfold vsize vput at *
  by_cases h0 : n < 0 ∨ n > 1073741823
  · exact ⟨if_pos h0, h0⟩
  · rw [if_neg h0] at h
    split at h
    · cases h
    · split at h <;> cases h
theorem vput_len (n : Int) : ((vput n).length : Int) = vsize n := by
  by_cases h : vsize n = 0
  · rw [(vput_none h).1, h]; rfl
  · rcases vput_cases n h with ⟨_, _, h1, h2⟩ | ⟨_, _, h1, h2⟩ | ⟨_, _, h1, h2⟩ <;> rw [h1, h2] <;> rfl
theorem vlen_1 {x : UInt8} {n : Int} (h : (x.toNat : Int) = n) (h1 : n < 64) : vlen x = 1 := by unfold vlen; rw [if_pos (by omega)]
theorem vlen_2 {x : UInt8} {n : Int} (h : (x.toNat : Int) = n) (h1 : 64 ≤ n) (h2 : n < 128) : vlen x = 2 := by unfold vlen; rw [if_neg (by omega), if_pos (by omega)]
theorem vlen_4 {x : UInt8} {n : Int} (h : (x.toNat : Int) = n) (h1 : 128 ≤ n) (h2 : n < 192) : vlen x = 4 := by unfold vlen; rw [if_neg (by omega), if_neg (by omega), if_pos (by omega)]
theorem vget_put (n : Int) (t : List UInt8) (h : vsize n ≠ 0) : vget (vput n ++ t) = (n, t, 0) := by
  rcases vput_cases n h with ⟨h0, h1, h2, h3⟩ | ⟨h0, h1, h2, h3⟩ | ⟨h0, h1, h2, h3⟩
  · have e1 := u8of_lt h0 (by omega)
    have hl := vlen_1 e1 (by omega)
    have hn : beNum ((u8of n).toNat % 64 : Int) [] = n := by show ((u8of n).toNat : Int) % 64 = n; omega
    rw [h3]
    simp only [List.cons_append, List.nil_append]
    rw [vget_ok (by omega) (by omega), hl]
    simp [hn, h2]
  · have e1 := u8of_lt (n := 64 + n / 256) (by omega) (by omega)
    have e2 := u8of_nat n
    have hl := vlen_2 e1 (by omega) (by omega)
    have hn : beNum ((u8of (64 + n / 256)).toNat % 64 : Int) [u8of n] = n := by simp only [beNum, List.foldl_cons, List.foldl_nil, e1, e2]; omega
    rw [h3]
    simp only [List.cons_append, List.nil_append]
    rw [vget_ok (by omega) (by simp; omega), hl]
    simp [hn, h2]
  · have e1 := u8of_lt (n := 128 + n / 16777216) (by omega) (by omega)
    have e2 := u8of_nat (n / 65536)
    have e3 := u8of_nat (n / 256)
    have e4 := u8of_nat n
    have hl := vlen_4 e1 (by omega) (by omega)
    have hn : beNum ((u8of (128 + n / 16777216)).toNat % 64 : Int) [u8of (n / 65536), u8of (n / 256), u8of n] = n := by simp only [beNum, List.foldl_cons, List.foldl_nil, e1, e2, e3, e4]; omega
    rw [h3]
    simp only [List.cons_append, List.nil_append]
    rw [vget_ok (by omega) (by simp; omega), hl]
    simp [hn, h2]
theorem vget_cut (n : Int) (i : Nat) (h : i < (vput n).length) : vget ((vput n).take i) = (0, [], 1) := by
  have hv : vsize n ≠ 0 := by intro e; rw [(vput_none e).1] at h; simp at h
  cases i with
  | zero => rfl
  | succ i =>
    rcases vput_cases n hv with ⟨h0, h1, h2, h3⟩ | ⟨h0, h1, h2, h3⟩ | ⟨h0, h1, h2, h3⟩ <;> rw [h3] at h ⊢ <;> simp only [List.length_cons, List.length_nil] at h <;> rw [List.take_succ_cons]
    · omega
    · have hl := vlen_2 (u8of_lt (n := 64 + n / 256) (by omega) (by omega)) (by omega) (by omega)
      rw [vget_bad (.inr (by rw [hl, List.length_take]; simp; omega)), hl]; rfl
    · have hl := vlen_4 (u8of_lt (n := 128 + n / 16777216) (by omega) (by omega)) (by omega) (by omega)
      rw [vget_bad (.inr (by rw [hl, List.length_take]; simp; omega)), hl]; rfl
theorem vget_err (b : List UInt8) : (vget b).2.2 = 0 ∨ ((vget b).1 = 0 ∧ (vget b).2.1 = [] ∧ ((vget b).2.2 = 1 ∨ (vget b).2.2 = 2)) := by
  cases b with
  | nil => exact .inr ⟨rfl, rfl, .inl rfl⟩
  | cons x r =>
    rw [vget_cons]
    split
    · exact .inr ⟨rfl, rfl, .inr rfl⟩
    · split
      · exact .inr ⟨rfl, rfl, .inl rfl⟩
      · split
        · exact .inr ⟨rfl, rfl, .inr rfl⟩
        · exact .inl rfl
theorem u8_eq {x : UInt8} {n : Int} (h : (x.toNat : Int) = n % 256) : u8of n = x := by
  apply UInt8.toNat_inj.1
  have := u8of_nat n
  omega
theorem vput_get (b : List UInt8) (h : (vget b).2.2 = 0) : vput (vget b).1 ++ (vget b).2.1 = b ∧ vsize (vget b).1 ≠ 0 := by
  cases b with
  | nil => cases h
  | cons x r =>
    have hx := UInt8.toNat_lt x
    by_cases hb : vlen x = 0 ∨ r.length + 1 < vlen x
    · rw [vget_bad hb] at h
      by_cases h0 : vlen x = 0 <;> simp [h0] at h
    · have h1 : 1 ≤ vlen x := by omega
      have h2 : vlen x ≤ r.length + 1 := by omega
      rw [vget_ok h1 h2] at h ⊢
      by_cases hv : vsize (beNum (x.toNat % 64 : Int) (r.take (vlen x - 1))) ≠ vlen x
      · rw [if_pos hv] at h; cases h
      · rw [if_neg hv]
        have hv := Decidable.not_not.1 hv
        have hcs : (x.toNat < 64 ∧ vlen x = 1) ∨ (64 ≤ x.toNat ∧ x.toNat < 128 ∧ vlen x = 2) ∨ (128 ≤ x.toNat ∧ x.toNat < 192 ∧ vlen x = 4) := by
          revert h1; unfold vlen
          (repeat' split) <;> omega
        rcases hcs with ⟨g1, g2⟩ | ⟨g1, g3, g2⟩ | ⟨g1, g3, g2⟩
        · rw [g2] at hv ⊢
          simp only [Nat.sub_self, List.take_zero, beNum, List.foldl_nil] at hv ⊢
          have hz : vsize ((x.toNat : Int) % 64) ≠ 0 := by rw [hv]; decide
          rcases vput_cases _ hz with ⟨k0, k1, k2, k3⟩ | ⟨k0, k1, k2, k3⟩ | ⟨k0, k1, k2, k3⟩
          · rw [k3]; exact ⟨by simp; exact u8_eq (by omega), hz⟩
          · omega
          · omega
        · obtain ⟨y, r, rfl⟩ : ∃ y r', r = y :: r' := by cases r with | nil => simp at h2; omega | cons y r' => exact ⟨y, r', rfl⟩
          have hy := UInt8.toNat_lt y
          rw [g2] at hv ⊢
          simp only [Nat.reduceSub, List.take_succ_cons, List.take_zero, beNum, List.foldl_cons, List.foldl_nil] at hv ⊢
          have hz : vsize ((x.toNat : Int) % 64 * 256 + y.toNat) ≠ 0 := by rw [hv]; decide
          rcases vput_cases _ hz with ⟨k0, k1, k2, k3⟩ | ⟨k0, k1, k2, k3⟩ | ⟨k0, k1, k2, k3⟩
          · rw [k2] at hv; cases hv
          · rw [k3]; exact ⟨by simp; exact ⟨u8_eq (by omega), u8_eq (by omega)⟩, hz⟩
          · rw [k2] at hv; cases hv
        · obtain ⟨y, z, u, r, rfl⟩ : ∃ y z u r', r = y :: z :: u :: r' := by
            match r, h2 with
            | [], h => simp at h; omega
            | [_], h => simp at h; omega
            | [_, _], h => simp at h; omega
            | y :: z :: u :: r', _ => exact ⟨y, z, u, r', rfl⟩
          have hy := UInt8.toNat_lt y
          have hz' := UInt8.toNat_lt z
          have hu := UInt8.toNat_lt u
          rw [g2] at hv ⊢
          simp only [Nat.reduceSub, List.take_succ_cons, List.take_zero, beNum, List.foldl_cons, List.foldl_nil] at hv ⊢
          generalize hn : (((x.toNat : Int) % 64 * 256 + y.toNat) * 256 + z.toNat) * 256 + u.toNat = n at *
          have hz : vsize n ≠ 0 := by rw [hv]; decide
          rcases vput_cases _ hz with ⟨k0, k1, k2, k3⟩ | ⟨k0, k1, k2, k3⟩ | ⟨k0, k1, k2, k3⟩
          · rw [k2] at hv; cases hv
          · rw [k2] at hv; cases hv
          · rw [k3]; exact ⟨by simp; exact ⟨u8_eq (by omega), u8_eq (by omega), u8_eq (by omega), u8_eq (by omega)⟩, hz⟩
end Go.Proofs.YthcoccoanpmhgaaDoor
