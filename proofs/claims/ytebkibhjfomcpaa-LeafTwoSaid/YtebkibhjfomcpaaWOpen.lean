/- Arguments: octets and numbers, opened. -/
import Derived.Test.YtebkibhjfomcpaaWAuto
import Derived.Test.YtebkibhjfomcpaaOpen
namespace Go.Proofs.Ytebkibhjfomcpaa
open Go.RowKit
set_option linter.unusedVariables false
set_option linter.unusedSimpArgs false
theorem opens_bytes : Opens Try.prog 22 kBytes := opens_sl _ (hT 22 _ rfl).und (by kernel_rfl) (opens_u8 (hT 5 _ rfl).und)
theorem rv_bytes {O : Nat → Prop} {w : World} {μ : Mu} {v : Value} {b : List UInt8} (h : Sl kU8 w O v b) : RV O w μ (bytes b) v :=
  rv_sl (d := kU8) (enc := eU8) 0 (fun x cs (hx : cs = _) => by subst hx; exact .cons (.lit _) .nil) (fun _ => rfl) (by decide) h
theorem rv_ints {O : Nat → Prop} {w : World} {μ : Mu} {v : Value} {b : List Int} (h : Sl kI64 w O v b) : RV O w μ (ints b) v :=
  rv_sl (d := kI64) (enc := eI64) 0 (fun x cs (hx : cs = _) => by subst hx; exact .cons (.lit _) .nil) (fun _ => rfl) (by decide) h
/-- An argument that is a struct. -/
theorem arg_agg {H : Type} {enc : TypeId × Value → H} {P : Program} {w : World} {base : Nat} {sp : Nat → Bool} {held : Bool} {t : TypeId} {fs : Array Field} {v : Value} {dd : DataW H} {ps : List MemPlace} {α : Type} {d : Kd α} (hu : P.underlying t = some (.struct fs)) (ho : Opens P t d)
    {r : Reach} {b0 : Nat} (hv : Value.okWide P w r b0 t v) (h : DataW.Trod enc P w base sp held t v dd ps) : ∃ x cs, v = .agg cs ∧ d.rel w (fun _ => False) x cs.toList := by
  simp only [Value.okWide, hu] at hv
  obtain ⟨cs, rfl, _, _⟩ := hv
  obtain ⟨fuel, h⟩ := h
  obtain ⟨x, hx⟩ := ho enc w base sp held fuel _ _ h
  exact ⟨x, cs, rfl, by simpa [Value.cells] using hx⟩
end Go.Proofs.Ytebkibhjfomcpaa
