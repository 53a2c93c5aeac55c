/- Layer 3: the laws BlockWords and BlockSpread, walked by the engine. -/
import Derived.Test.YthcoccoanpmhgaaDoorU32A
import Derived.Test.YthcoccoanpmhgaaDoorBlkPure3
namespace Go.Proofs.YthcoccoanpmhgaaDoor
open Go.RowKit
attribute [local irreducible] EachR AO IterP RoundP ADr AL AW Then InBlock RetP Tells APure ACall
set_option linter.unusedVariables false
set_option linter.unusedSimpArgs false
set_option maxRecDepth 100000
def probeA : List UInt8 := 128 :: List.replicate 63 0
theorem bw_m0 : (wv ((mix firsts probeA).getD 0 0) == 3820012610) = true := by decide +kernel
theorem bw_s0 : (wv ((spread probeA).getD 0 0) == 2147483648) = true := by decide +kernel
theorem bw_s1 : (wv ((spread probeA).getD 1 0) == 0) = true := by decide +kernel
theorem bw_s16 : (wv ((spread probeA).getD 16 0) == 2147483648) = true := by decide +kernel
theorem bawake_p : APure Tryd.prog 7 [] (.lit (.bool true)) [] := by
  refine apure_of hT Tryd.func7 rfl ?_
  simp only [Tryd.ntmps7, List.length_cons, List.length_nil, Nat.reduceAdd, Nat.reduceSub, List.replicate, List.cons_append, List.nil_append]
  refine go ⟨?_⟩
  refine cal goBFirst bfirst_p ⟨?_⟩
  refine go ⟨?_⟩
  have hp : ∀ k, k < 64 → fU8 probeA k = upd (fun x => [AV.lit (Value.int IntKind.u8 0)]) 0 [AV.lit (Value.int IntKind.u8 128)] k := by
    rintro (_ | k) hk
    · rfl
    · have e : probeA.getD (k + 1) 0 = 0 := by
        show (List.replicate 63 (0 : UInt8)).getD k 0 = 0
        rw [List.getD_eq_getElem?_getD, List.getElem?_replicate, if_pos (by omega)]; rfl
      show eU8 (probeA.getD (k + 1) 0) = _
      rw [e]; rfl
  refine calL goBMix (bmix_p firsts probeA rfl rfl) (les2 (.refl _) (leArr hp)) ⟨?_⟩
  refine go ⟨?_⟩
  refine calL goBSpread (bspread_p probeA rfl) (les1 (leArr hp)) ⟨?_⟩
  refine go ⟨?_⟩
  simp only [bw_m0, bw_s0, bw_s1, bw_s16, cond_true]
  exact fin
theorem goBAwake : GoFn Tryd.prog 7 := ⟨_, _, Tryd.func7, by kernel_rfl, rfl⟩
theorem bwords_law (h : List UInt32) (b : List UInt8) (i : Int) (y : UInt8) (hh : h.length = 8) (hb : b.length = 64) : APure Tryd.prog 6 [w8A h, b64A b, int i, .lit (.int .u8 y.toNat)] (.lit (.bool true)) [] := by
  refine apure_of hT Tryd.func6 rfl ?_
  simp only [Tryd.ntmps6, List.length_cons, List.length_nil, Nat.reduceAdd, Nat.reduceSub, List.replicate, List.cons_append, List.nil_append]
  refine go ⟨?_⟩
  refine cal goBAwake bawake_p ⟨?_⟩
  refine go ⟨?_⟩
  have hm := and_mask i 6 (by decide)
  rw [show ((2 : Int) ^ 6 - 1) = 63 from rfl] at hm
  rw [hm]
  obtain ⟨k, hk, hk64⟩ : ∃ k : Nat, i % 2 ^ 6 = k ∧ k < 64 := ⟨(i % 64).toNat, by omega, by omega⟩
  rw [hk]
  refine go ⟨?_⟩
  have hc : ∀ j, j < 64 → fU8 (b.set k (b.getD k 0 ^^^ y)) j = upd (fU8 b) k [AV.lit (Value.int IntKind.u8 (b.getD k 0 ^^^ y).toNat)] j := fun j hj => by
    unfold fU8 eU8 upd
    cases hj : Nat.beq j k with
    | true => obtain rfl := Nat.eq_of_beq_eq_true hj; simp [List.getD_eq_getElem?_getD, show j < b.length by omega]
    | false =>
      have : j ≠ k := by rintro rfl; rw [Nat.beq_refl] at hj; cases hj
      simp [List.getD_eq_getElem?_getD, List.getElem?_set_ne (Ne.symm this)]
  have hcl : (b.set k (b.getD k 0 ^^^ y)).length = 64 := by simp [hb]
  rw [eg_xor8]
  refine cal goBSpread (bspread_p b hb) ⟨?_⟩
  refine go ⟨?_⟩
  refine calL goBSpread (bspread_p _ hcl) (les1 (leArr hc)) ⟨?_⟩
  generalize hcd : b.set k (b.getD k 0 ^^^ y) = c at *
  refine go ⟨?_⟩
  refine aw_tell (Tells.objf 2 (fU8 c) rfl hc) ?_
  refine lp (fun t : {t : Nat // t ≤ 16} => [(14, int t.1), (8, .lit (.bool false))]) (fun _ => [{ T := 23, sz := 1, n := 8, f := fU32 h }, { T := 24, sz := 1, n := 64, f := fU8 b }, { T := 24, sz := 1, n := 64, f := fU8 c }, { T := 27, sz := 1, n := 64, f := fU32 (spread b) }, { T := 27, sz := 1, n := 64, f := fU32 (spread c) }]) (fun t => 16 - t.1) ⟨0, by omega⟩ ?_
  rintro ⟨t, ht⟩
  have key : t < 16 → (wv ((spread b).getD t 0) == wv ((spread c).getD t 0)) = (decide (y = 0) || decide (t ≠ k / 4)) := fun hlt => by
    rw [wv_beq, Bool.eq_iff_iff, beq_iff_eq, spread_low b hb t hlt, spread_low c hcl t hlt, ← hcd, words_law b k (by omega) y t]
    simp
  have hy0 : ((y.toNat : Int) == 0) = decide (y = 0) := by
    rw [Bool.eq_iff_iff, beq_iff_eq, decide_eq_true_iff, ← UInt8.toNat_inj]; simp
  refine go ⟨?_⟩
  refine aw_if rfl (fun h => ?_) (fun h => ?_)
  · refine go ⟨?_⟩
    rw [hy0, key (by omega)]
    by_cases h0 : y = 0
    · rw [decide_eq_true h0]
      refine go ⟨?_⟩
      refine je ⟨⟨t + 1, by omega⟩, by simp only; omega, ?_⟩
      exact tel
    · rw [decide_eq_false h0]
      refine go ⟨?_⟩
      have e1 : (k : Int).tdiv 4 = ((k / 4 : Nat) : Int) := by rw [Int.tdiv_eq_ediv_of_nonneg (by omega)]; simp
      have e2 : (!decide (t ≠ k / 4) == ((t : Int) != IntKind.i64.wrap ((k : Int).tdiv 4))) = false := by
        rw [e1, show IntKind.i64.wrap ((k / 4 : Nat) : Int) = ((k / 4 : Nat) : Int) by rw [IntKind.wrap_i64]; omega]
        by_cases h1 : t = k / 4
        · simp [h1]
        · rw [decide_eq_true h1, show ((t : Int) != ((k / 4 : Nat) : Int)) = true by simp only [bne_iff_ne, ne_eq]; omega]; rfl
      rw [e2]
      refine go ⟨?_⟩
      refine je ⟨⟨t + 1, by omega⟩, by simp only; omega, ?_⟩
      exact tel
  · refine go ⟨?_⟩
    have hy1 : ((y.toNat : Int) != 0) = !decide (y = 0) := by rw [← hy0]; rfl
    rw [hy1]
    by_cases h0 : y = 0
    · rw [decide_eq_true h0]
      have hbc : c = b := by
        rw [← hcd, h0]
        apply List.ext_getElem (by simp)
        intro j h1 h2
        rw [List.getElem_set]
        split
        · rename_i he; subst he; simp [List.getD_eq_getElem?_getD, h2]
        · rfl
      subst hbc
      refine go ⟨?_⟩
      refine ad_pure hT rfl rfl ⟨isInts_u32 _ _, isInts_u32 _ _⟩ ?_
      rw [arrEq_refl]
      refine nz ⟨?_⟩
      refine go ⟨?_⟩
      refine calL goBMix (bmix_p _ _ hh hcl) (les2 (.refl _) (.refl _)) ⟨?_⟩
      refine go ⟨?_⟩
      refine calL goBMix (bmix_p _ _ hh hcl) (les2 (.refl _) (.refl _)) ⟨?_⟩
      refine go ⟨?_⟩
      refine ad_pure hT rfl rfl ⟨isInts_u32 _ _, isInts_u32 _ _⟩ ?_
      rw [arrEq_refl]
      refine nz ⟨?_⟩
      refine go ⟨?_⟩
      exact fin
    · rw [decide_eq_false h0]
      refine go ⟨?_⟩
      exact fin
theorem goBWords : GoFn Tryd.prog 6 := ⟨_, _, Tryd.func6, by kernel_rfl, rfl⟩
end Go.Proofs.YthcoccoanpmhgaaDoor
