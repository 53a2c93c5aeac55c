/- Layer 3, plain: each word is of four octets. -/
import Derived.Test.YthcoccoanpmhgaaDoorBlkRef
namespace Go.Proofs.YthcoccoanpmhgaaDoor
set_option linter.unusedVariables false
set_option linter.unusedSimpArgs false
theorem spr_low (l : List UInt32) (j : Nat) (hj : j < 16) : ∀ n, (spr l n).getD j 0 = l.getD j 0
  | 0 => rfl
  | n + 1 => by
    rw [spr, ← spr_low l j hj n]
    simp only [List.getD_eq_getElem?_getD]
    rw [List.getElem?_set_ne (by omega)]
theorem spread_low (b : List UInt8) (hb : b.length = 64) (j : Nat) (hj : j < 16) : (spread b).getD j 0 = wd b j := by
  unfold spread
  rw [spr_low _ j hj, ← pw2_done b hb]
  simp [pw2, List.getD_eq_getElem?_getD, hj, show j < 64 by omega]
theorem wd_nat (b : List UInt8) (j : Nat) : (wd b j).toNat = (b.getD (4 * j) 0).toNat * 16777216 + (b.getD (4 * j + 1) 0).toNat * 65536 + (b.getD (4 * j + 2) 0).toNat * 256 + (b.getD (4 * j + 3) 0).toNat := by
  unfold wd
  have h0 := (b.getD (4 * j) 0).toNat_lt
  have h1 := (b.getD (4 * j + 1) 0).toNat_lt
  have h2 := (b.getD (4 * j + 2) 0).toNat_lt
  have h3 := (b.getD (4 * j + 3) 0).toNat_lt
  generalize b.getD (4 * j) 0 = p at *
  generalize b.getD (4 * j + 1) 0 = q at *
  generalize b.getD (4 * j + 2) 0 = r at *
  generalize b.getD (4 * j + 3) 0 = s at *
  simp [UInt32.toNat_shiftLeft, Nat.shiftLeft_eq, UInt32.toNat_add]
  omega
theorem wd_eq (b c : List UInt8) (j : Nat) : wd b j = wd c j ↔ (b.getD (4 * j) 0 = c.getD (4 * j) 0 ∧ b.getD (4 * j + 1) 0 = c.getD (4 * j + 1) 0 ∧ b.getD (4 * j + 2) 0 = c.getD (4 * j + 2) 0 ∧ b.getD (4 * j + 3) 0 = c.getD (4 * j + 3) 0) := by
  constructor
  · intro h
    have e := congrArg UInt32.toNat h
    rw [wd_nat, wd_nat] at e
    have := (b.getD (4 * j) 0).toNat_lt; have := (b.getD (4 * j + 1) 0).toNat_lt; have := (b.getD (4 * j + 2) 0).toNat_lt; have := (b.getD (4 * j + 3) 0).toNat_lt
    have := (c.getD (4 * j) 0).toNat_lt; have := (c.getD (4 * j + 1) 0).toNat_lt; have := (c.getD (4 * j + 2) 0).toNat_lt; have := (c.getD (4 * j + 3) 0).toNat_lt
    refine ⟨UInt8.toNat_inj.1 (by omega), UInt8.toNat_inj.1 (by omega), UInt8.toNat_inj.1 (by omega), UInt8.toNat_inj.1 (by omega)⟩
  · rintro ⟨h0, h1, h2, h3⟩
    unfold wd; rw [h0, h1, h2, h3]
theorem xor8_iff (a x : UInt8) : a = a ^^^ x ↔ x = 0 := by
  constructor
  · intro h
    have := congrArg (a ^^^ ·) h.symm
    simpa [← UInt8.xor_assoc] using this
  · rintro rfl; simp
theorem words_law (b : List UInt8) (k : Nat) (hk : k < b.length) (x : UInt8) (j : Nat) : (wd b j = wd (b.set k (b.getD k 0 ^^^ x)) j) ↔ (x = 0 ∨ j ≠ k / 4) := by
  have hs : ∀ i, (b.set k (b.getD k 0 ^^^ x)).getD i 0 = if i = k then b.getD k 0 ^^^ x else b.getD i 0 := by
    intro i
    simp only [List.getD_eq_getElem?_getD, List.getElem?_set]
    by_cases h : k = i
    · subst h; simp [hk]
    · rw [if_neg h, if_neg (by omega)]
  rw [wd_eq]
  simp only [hs]
  have hx := xor8_iff (b.getD k 0) x
  constructor
  · rintro ⟨h0, h1, h2, h3⟩
    by_cases hj : j = k / 4
    · left
      have : k = 4 * j ∨ k = 4 * j + 1 ∨ k = 4 * j + 2 ∨ k = 4 * j + 3 := by omega
      rcases this with h | h | h | h
      · rw [if_pos h.symm] at h0; rw [← h] at h0; exact hx.1 h0
      · rw [if_pos h.symm] at h1; rw [← h] at h1; exact hx.1 h1
      · rw [if_pos h.symm] at h2; rw [← h] at h2; exact hx.1 h2
      · rw [if_pos h.symm] at h3; rw [← h] at h3; exact hx.1 h3
    · exact .inr hj
  · intro h
    have key : ∀ i, i / 4 = j → b.getD i 0 = if i = k then b.getD k 0 ^^^ x else b.getD i 0 := by
      intro i hi
      split
      · rename_i he
        subst he
        rcases h with rfl | h
        · simp
        · exact absurd hi.symm h
      · rfl
    exact ⟨key _ (by omega), key _ (by omega), key _ (by omega), key _ (by omega)⟩
end Go.Proofs.YthcoccoanpmhgaaDoor
