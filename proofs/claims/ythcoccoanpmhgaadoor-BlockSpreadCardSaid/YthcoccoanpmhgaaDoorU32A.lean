/- Words of 32 bits, in the engine's words. -/
import Derived.Test.YthcoccoanpmhgaaDoorBlkA
namespace Go.Proofs.YthcoccoanpmhgaaDoor
open Go.RowKit
set_option linter.unusedVariables false
set_option linter.unusedSimpArgs false
theorem b8s_arr {O : Nat → Prop} {w : World} {μ : Mu} {n : Nat} {l : List UInt8} (hl : l.length = n) : RV O w μ (.arr 1 n (fU8 l)) (.agg (b8s l)) := by
  unfold b8s
  refine num_arr (by simp [hl]) (fun u hu => ?_) fun k u hu => ?_
  · obtain ⟨x, _, rfl⟩ := List.mem_map.1 hu; rfl
  · simp only [List.getElem?_map, Option.map_eq_some_iff] at hu
    obtain ⟨x, hx, rfl⟩ := hu
    simp [fU8, eU8, List.getD_eq_getElem?_getD, hx]
theorem u8_of_wf {n : Int} (h : (Lit.int .u8 n).wf = true) : ∃ y : UInt8, n = (y.toNat : Int) := by
  refine ⟨UInt8.ofNat n.toNat, ?_⟩
  simp [Lit.wf, IntKind.min, IntKind.max, IntKind.signed, IntKind.bits] at h
  rw [UInt8.toNat_ofNat']; omega
theorem isInts_u32 (n : Nat) (l : List UInt32) : isInts .u32 n (fU32 l) := fun k _ => ⟨_, rfl⟩
theorem isInts_u8 (n : Nat) (l : List UInt8) : isInts .u8 n (fU8 l) := fun k _ => ⟨_, rfl⟩
theorem arrEq_refl (n : Nat) (f : Nat → List AV) : arrEq n f f = true := decide_eq_true fun _ _ => rfl
theorem arrEq_u32 {n : Nat} {a b : List UInt32} (ha : a.length = n) (hb : b.length = n) : arrEq n (fU32 a) (fU32 b) = (a == b) := by
  rw [Bool.eq_iff_iff, beq_iff_eq]
  unfold arrEq
  rw [decide_eq_true_iff]
  constructor
  · intro h
    apply List.ext_getElem (by omega)
    intro k h1 h2
    have := wv_inj (show wv (a.getD k 0) = wv (b.getD k 0) from h k (by omega))
    simpa [List.getD_eq_getElem?_getD, h1, h2] using this
  · rintro rfl k _; rfl
end Go.Proofs.YthcoccoanpmhgaaDoor
