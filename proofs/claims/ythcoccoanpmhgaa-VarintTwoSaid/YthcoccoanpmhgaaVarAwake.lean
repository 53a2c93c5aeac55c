/- Layer 1: the examples. -/
import Derived.Test.YthcoccoanpmhgaaVarPut
import Derived.Test.YthcoccoanpmhgaaVarRef
import Derived.Test.YthcoccoanpmhgaaReg
namespace Go.Proofs.Ythcoccoanpmhgaa
open Go.RowKit
set_option linter.unusedVariables false
set_option linter.unusedSimpArgs false
theorem und_str : Try.prog.underlying 9 = some .string := by kernel_rfl
theorem und_u8 : Try.prog.underlying 5 = some (.int .u8) := by kernel_rfl
theorem conv_str {w : World} {O : Nat → Prop} {v : Value} {b : List UInt8} (h : Sl kU8 w O v b) : (convert 22 9 v).run Try.prog w = .ok (.string (str b)) w := run_conv und_bytes und_u8 und_str h
set_option maxHeartbeats 1000000 in
set_option maxRecDepth 100000 in
theorem awake_calls (w : World) : Calls Try.prog 9 #[] w fun e w' => e = .returned (.bool true) ∧ Below w.heap.size w w' := by
  have P1 := Lib.hid (show vget [64, 64, 7] = (64, [7], 0) by decide)
  have P2 := Lib.hid (show vget [64, 63] = (0, [], 2) by decide)
  have P3 := Lib.hid (show vput 63 = [63] by decide)
  have P4 := Lib.hid (show vput 64 = [64, 64] by decide)
  have P5 := Lib.hid (show vput 16384 = [128, 0, 64, 0] by decide)
  have P6 := Lib.hid (show vsize 64 = 2 by decide)
  go_enter Try.func9, Try.ntmps9
  go_wp2_with (fail)
  have hs0 := Sl.lit (d := kU8) (w := w) (O := fun _ => False) (cells := #[.int .u8 64, .int .u8 64, .int .u8 7]) (xs := [64, 64, 7]) (m := 3) 5 (Reps.u8_map.2 rfl) rfl (by unfold maxLen; omega) (fun _ h => h.elim)
  refine (get_below _ _ _ _ hs0).mono ?_
  rw [P1.out]
  rintro e w1 ⟨v1, rfl, hs1, hb1⟩
  obtain ⟨A1, c1, rfl, _, _⟩ := hs1.val
  replace hb1 : Below w.heap.size w w1 := ((Below.refl _ _).alloc (Nat.le_refl _) _).trans (hb1.mono (by simp))
  clear hs0 hs1
  go_wp2_with (fail)
  have hs0 := Sl.lit (d := kU8) (w := w1) (O := fun _ => False) (cells := #[.int .u8 64, .int .u8 63]) (xs := [64, 63]) (m := 2) 5 (Reps.u8_map.2 rfl) rfl (by unfold maxLen; omega) (fun _ h => h.elim)
  refine (get_below _ _ _ _ hs0).mono ?_
  rw [P2.out]
  rintro e w2 ⟨v2, rfl, hs2, hb2⟩
  replace hb2 : Below w.heap.size w w2 := hb1.trans (((Below.refl _ _).alloc hb1.size _).trans (hb2.mono (by simp; have := hb1.size; omega)))
  clear hs0 hs2 hb1
  go_wp2_with (fail)
  refine (put_calls [] 63 (fun _ => False) _ _ (Sl.nil_ _ _ _) (by simp)).mono ?_
  rw [P3.out]
  rintro e w3 ⟨v3, rfl, ho⟩
  have hcv := conv_str (ho.sl (fun _ h => h.elim))
  have hb3 := Bel.trans w w2 w3 hb2 ho.2
  clear ho hb2
  go_wp2_with (fail)
  refine (put_calls [] 64 (fun _ => False) _ _ (Sl.nil_ _ _ _) (by simp)).mono ?_
  rw [P4.out]
  rintro e w4 ⟨v4, rfl, ho⟩
  clear hcv
  have hcv := conv_str (ho.sl (fun _ h => h.elim))
  have hb4 := Bel.trans w w3 w4 hb3 ho.2
  clear ho hb3
  go_wp2_with (fail)
  refine (put_calls [] 16384 (fun _ => False) _ _ (Sl.nil_ _ _ _) (by simp)).mono ?_
  rw [P5.out]
  rintro e w5 ⟨v5, rfl, ho⟩
  clear hcv
  have hcv := conv_str (ho.sl (fun _ h => h.elim))
  have hb5 := Bel.trans w w4 w5 hb4 ho.2
  clear ho hb4
  go_wp2_with (fail)
  refine (size_calls 64 _).mono ?_
  rw [P6.out]
  rintro e w' ⟨rfl, rfl⟩
  go_wp2_with (fail)
  go_ret
  exact ⟨rfl, hb5⟩
end Go.Proofs.Ythcoccoanpmhgaa
