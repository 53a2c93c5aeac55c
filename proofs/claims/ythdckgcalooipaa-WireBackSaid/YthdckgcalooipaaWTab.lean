/- The seat's types, as a table; data of octets and numbers. -/
import Derived.Test.YthdckgcalooipaaABridge
import Derived.Test.YthdckgcalooipaaProg
import Derived.Test.YthdckgcalooipaaVarPure3
namespace Go.Proofs.Ythdckgcalooipaa
open Go.RowKit
set_option linter.unusedVariables false
def tyL : List (TypeId × TyI) := [(3, ⟨.int .i64, 1, 8, [.int .i64 0]⟩), (4, ⟨.bool, 1, 1, [.bool false]⟩), (5, ⟨.int .u8, 1, 1, [.int .u8 0]⟩), (9, ⟨.str, 1, 16, [.string .empty]⟩), (23, ⟨.slice 5, 1, 24, [.slice none 0 0]⟩), (25, ⟨.int .i64, 1, 8, [.int .i64 0]⟩), (28, ⟨.int .u64, 1, 8, [.int .u64 0]⟩), (30, ⟨.slice 3, 1, 24, [.slice none 0 0]⟩), (53, ⟨.arr 4 3, 4, 32, [.int .i64 0]⟩)]
abbrev tab : Tab := tabOf tyL
theorem hT : TabOk Try.prog tab := tabOf_ok (by kernel_rfl)
abbrev int (n : Int) : AV := .lit (.int .i64 n)
def eU8 (x : UInt8) : List AV := [.lit (.int .u8 x.toNat)]
def eI64 (x : Int) : List AV := [.lit (.int .i64 x)]
def fU8 (b : List UInt8) : Nat → List AV := fun k => eU8 (b.getD k 0)
def fI64 (b : List Int) : Nat → List AV := fun k => eI64 (b.getD k 0)
abbrev bytes (b : List UInt8) : AV := .sl 1 b.length false (fU8 b)
abbrev ints (b : List Int) : AV := .sl 1 b.length false (fI64 b)
abbrev oU8 (b : List UInt8) : AObj := { T := 5, sz := 1, n := b.length, f := fU8 b }
abbrev oI64 (b : List Int) : AObj := { T := 3, sz := 1, n := b.length, f := fI64 b }
theorem u8of_toNat (n : Int) : ((u8of n).toNat : Int) = IntKind.u8.wrap n := by rw [u8of_nat, IntKind.wrap_u8]
theorem fU8_app {xs ys : List UInt8} {n k : Nat} (hn : n = xs.length) (hk : k < n + ys.length) : fU8 (xs ++ ys) k = appF n (fU8 xs) (fU8 ys) k := by
  subst hn
  unfold fU8
  by_cases h : k < xs.length
  · rw [appF_lt h]; simp [List.getD_eq_getElem?_getD, List.getElem?_append_left h]
  · rw [appF_ge (by omega)]; simp [List.getD_eq_getElem?_getD, List.getElem?_append_right (show xs.length ≤ k by omega)]
theorem fI64_app {xs ys : List Int} {n k : Nat} (hn : n = xs.length) (hk : k < n + ys.length) : fI64 (xs ++ ys) k = appF n (fI64 xs) (fI64 ys) k := by
  subst hn
  unfold fI64
  by_cases h : k < xs.length
  · rw [appF_lt h]; simp [List.getD_eq_getElem?_getD, List.getElem?_append_left h]
  · rw [appF_ge (by omega)]; simp [List.getD_eq_getElem?_getD, List.getElem?_append_right (show xs.length ≤ k by omega)]
theorem appF_congr {n k : Nat} {f g g' : Nat → List AV} (h : ∀ j, n + j = k → g j = g' j) : appF n f g k = appF n f g' k := by
  by_cases hk : k < n
  · rw [appF_lt hk, appF_lt hk]
  · rw [appF_ge (by omega), appF_ge (by omega)]; exact h _ (by omega)
end Go.Proofs.Ythdckgcalooipaa
