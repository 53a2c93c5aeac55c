/- Facts on this program's types. -/
import Derived.Test.YthcoccoanpmhgaaRows
import Derived.Test.YthcoccoanpmhgaaLib
namespace Go.Proofs.Ythcoccoanpmhgaa
open Go.RowKit
theorem inf_of {P : Program} {e : TypeId} {z : Option Value} {s b : Nat} (h : (P.info? e).map (fun i => (i.zero, i.size, i.bytes)) = some (z, s, b)) :
    ∃ i, P.info? e = some i ∧ i.zero = z ∧ i.size = s ∧ i.bytes = b := by
  cases hi : P.info? e with
  | none => rw [hi] at h; cases h
  | some i => rw [hi] at h; injection h with h; injection h with h1 h; injection h with h2 h3; exact ⟨i, rfl, h1, h2, h3⟩
theorem inf_u8 : ∃ i, Try.prog.info? 5 = some i ∧ i.zero = some (.int .u8 0) ∧ i.size = 1 ∧ i.bytes = 1 := inf_of (by kernel_rfl)
theorem inf_int : ∃ i, Try.prog.info? 3 = some i ∧ i.zero = some (.int .i64 0) ∧ i.size = 1 ∧ i.bytes = 8 := inf_of (by kernel_rfl)
theorem und_bytes : Try.prog.underlying 22 = some (.slice 5) := by kernel_rfl
theorem und_ints : Try.prog.underlying 33 = some (.slice 3) := by kernel_rfl
end Go.Proofs.Ythcoccoanpmhgaa
