/- The law WireSize, from without. -/
import Derived.Test.YthdckgcalooipaaWSize
import Derived.Test.YthdckgcalooipaaOpen
namespace Go.Proofs.Ythdckgcalooipaa
open Go.RowKit
set_option linter.unusedVariables false
theorem opens_bytes : Opens Try.prog 23 kBytes := opens_sl _ (hT 23 _ rfl).und (by kernel_rfl) (opens_u8 (hT 5 _ rfl).und)
theorem opens_ints : Opens Try.prog 30 kInts := opens_sl _ (hT 30 _ rfl).und (by kernel_rfl) (opens_i64 (hT 3 _ rfl).und)
theorem rv_bytes {O : Nat → Prop} {w : World} {μ : Mu} {v : Value} {b : List UInt8} (h : Sl kU8 w O v b) : RV O w μ (bytes b) v :=
  rv_sl (d := kU8) (enc := eU8) 0 (fun x cs (hx : cs = _) => by subst hx; exact .cons (.lit _) .nil) (fun _ => rfl) (by decide) h
theorem rv_ints {O : Nat → Prop} {w : World} {μ : Mu} {v : Value} {b : List Int} (h : Sl kI64 w O v b) : RV O w μ (ints b) v :=
  rv_sl (d := kI64) (enc := eI64) 0 (fun x cs (hx : cs = _) => by subst hx; exact .cons (.lit _) .nil) (fun _ => rfl) (by decide) h
theorem run_wsize (W : World) {v0 v1 : Value} {b : List UInt8} {l : List Int} (s0 : Sl kU8 W (fun _ => False) v0 b) (s1 : Sl kI64 W (fun _ => False) v1 l) :
    Calls Try.prog 8 #[v0, v1] W fun e W' => e = .returned (.bool true) ∧ Below W.heap.size W W' :=
  run_apure (vs := [v0, v1]) (size_law b l) (.cons (rv_bytes s0) (.cons (rv_ints s1) .nil))
end Go.Proofs.Ythdckgcalooipaa
