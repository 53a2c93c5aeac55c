/- Layer 1 as plain functions on lists of octets; no program in sight. -/
import Derived.Test.YthcoccoanpmhgaaDoorLib
namespace Go.Proofs.YthcoccoanpmhgaaDoor
set_option linter.unusedVariables false
def u8of (n : Int) : UInt8 := UInt8.ofNat (n % 256).toNat
theorem u8of_nat (n : Int) : ((u8of n).toNat : Int) = n % 256 := by
  unfold u8of
  rw [UInt8.toNat_ofNat']
  have := Int.emod_nonneg n (show (256 : Int) ≠ 0 by omega)
  have := Int.emod_lt_of_pos n (show (0 : Int) < 256 by omega)
  omega
def vsize (n : Int) : Int := if n < 0 ∨ n > 1073741823 then 0 else if n < 64 then 1 else if n < 16384 then 2 else 4
def vput (n : Int) : List UInt8 :=
  if n < 0 ∨ n > 1073741823 then [] else if n < 64 then [u8of n] else if n < 16384 then [u8of (64 + n / 256), u8of n]
  else [u8of (128 + n / 16777216), u8of (n / 65536), u8of (n / 256), u8of n]
def beNum (n : Int) (l : List UInt8) : Int := l.foldl (fun n x => n * 256 + x.toNat) n
def vlen (x : UInt8) : Nat := if x.toNat < 64 then 1 else if x.toNat < 128 then 2 else if x.toNat < 192 then 4 else 0
def vget : List UInt8 → Int × List UInt8 × Int
  | [] => (0, [], 1)
  | x :: r =>
    if vlen x = 0 then (0, [], 2) else if r.length + 1 < vlen x then (0, [], 1)
    else if vsize (beNum (x.toNat % 64 : Int) (r.take (vlen x - 1))) ≠ vlen x then (0, [], 2)
    else (beNum (x.toNat % 64 : Int) (r.take (vlen x - 1)), r.drop (vlen x - 1), 0)
theorem beNum_append (n : Int) (l m : List UInt8) : beNum n (l ++ m) = beNum (beNum n l) m := by unfold beNum; rw [List.foldl_append]
theorem beNum_take (n : Int) (l : List UInt8) (j : Nat) (h : j < l.length) : beNum n (l.take (j + 1)) = beNum n (l.take j) * 256 + (l[j].toNat : Int) := by
  rw [List.take_succ_eq_append_getElem h, beNum_append]; rfl
theorem beNum_bd : ∀ (l : List UInt8) (n m : Int), 0 ≤ n → n < m → 0 ≤ beNum n l ∧ beNum n l < m * 256 ^ l.length
  | [], n, m, h0, h1 => by simpa [beNum] using ⟨h0, h1⟩
  | x :: l, n, m, h0, h1 => by
    have hx := UInt8.toNat_lt x
    have := beNum_bd l (n * 256 + x.toNat) (m * 256) (by omega) (by omega)
    refine ⟨this.1, ?_⟩
    have h2 := this.2
    rw [List.length_cons, Int.pow_succ, Int.mul_comm (256 ^ l.length), ← Int.mul_assoc]
    exact h2
theorem beNum_bd3 (n : Int) (l : List UInt8) (h0 : 0 ≤ n) (h1 : n < 64) (hl : l.length ≤ 3) : 0 ≤ beNum n l ∧ beNum n l < 1073741824 := by
  have h := beNum_bd l n 64 h0 h1
  refine ⟨h.1, Int.lt_of_lt_of_le h.2 ?_⟩
  have : l.length = 0 ∨ l.length = 1 ∨ l.length = 2 ∨ l.length = 3 := by omega
  rcases this with h | h | h | h <;> rw [h] <;> decide
theorem vget_cons (x : UInt8) (r : List UInt8) : vget (x :: r) = if vlen x = 0 then (0, [], 2) else if r.length + 1 < vlen x then (0, [], 1)
    else if vsize (beNum (x.toNat % 64 : Int) (r.take (vlen x - 1))) ≠ vlen x then (0, [], 2)
    else (beNum (x.toNat % 64 : Int) (r.take (vlen x - 1)), r.drop (vlen x - 1), 0) := rfl
theorem vget_ok {x : UInt8} {r : List UInt8} (h1 : 1 ≤ vlen x) (h2 : vlen x ≤ r.length + 1) :
    vget (x :: r) = if vsize (beNum (x.toNat % 64 : Int) (r.take (vlen x - 1))) ≠ vlen x then (0, [], 2) else (beNum (x.toNat % 64 : Int) (r.take (vlen x - 1)), (x :: r).drop (vlen x), 0) := by
  obtain ⟨q, hq⟩ : ∃ q, vlen x = q + 1 := ⟨vlen x - 1, by omega⟩
  rw [vget_cons, if_neg (by omega), if_neg (by omega), hq, List.drop_succ_cons, Nat.add_sub_cancel]
theorem vget_bad {x : UInt8} {r : List UInt8} (h : vlen x = 0 ∨ r.length + 1 < vlen x) : vget (x :: r) = (0, [], if vlen x = 0 then 2 else 1) := by
  rw [vget_cons]
  by_cases h0 : vlen x = 0
  · rw [if_pos h0, if_pos h0]
  · rw [if_neg h0, if_neg h0, if_pos (h.resolve_left h0)]
end Go.Proofs.YthcoccoanpmhgaaDoor
