/- Layer 3: the law BlockSpread, walked by the engine. -/
import Derived.Test.YthcoccoanpmhgaaDoorBlkLaw4
namespace Go.Proofs.YthcoccoanpmhgaaDoor
open Go.RowKit
attribute [local irreducible] EachR AO IterP RoundP ADr AL AW Then InBlock RetP Tells APure ACall
set_option linter.unusedVariables false
set_option linter.unusedSimpArgs false
set_option maxRecDepth 100000
theorem mask255 (q : Nat) : IntKind.u32.wrap ((BitVec.ofInt IntKind.u32.bits (q : Int) &&& BitVec.ofInt IntKind.u32.bits 255).toNat : Int) = ((q % 256 : Nat) : Int) := by
  have e2 : (BitVec.ofInt IntKind.u32.bits 255).toNat = 2 ^ 8 - 1 := rfl
  rw [BitVec.toNat_and, e2, Nat.and_two_pow_sub_one_eq_mod, BitVec.ofInt_natCast, BitVec.toNat_ofNat, IntKind.wrap_u32]
  have : q % 2 ^ IntKind.u32.bits % 2 ^ 8 = q % 256 := Nat.mod_mod_of_dvd q (Nat.pow_dvd_pow 2 (show 8 ≤ 32 by decide))
  rw [this]; omega
theorem oct_of (b : List UInt8) (hb : b.length = 64) (t k : Nat) (ht : t < 16) (hk : k < 4) : IntKind.u8.wrap (IntKind.u32.wrap ((BitVec.ofInt IntKind.u32.bits ((wv ((spread b).getD t 0)).fdiv (2 ^ min (IntKind.u64.wrap (IntKind.i64.wrap (24 - IntKind.i64.wrap (8 * (k : Int))))).toNat IntKind.u32.bits)) &&& BitVec.ofInt IntKind.u32.bits 255).toNat : Int)) = ((b.getD (4 * t + k) 0).toNat : Int) := by
  have e1 : min (IntKind.u64.wrap (IntKind.i64.wrap (24 - IntKind.i64.wrap (8 * (k : Int))))).toNat IntKind.u32.bits = 24 - 8 * k := by
    simp only [IntKind.wrap_i64, IntKind.wrap_u64]
    have : IntKind.u32.bits = 32 := rfl
    omega
  rw [e1, spread_low b hb t ht]
  have e2 : (wv (wd b t)).fdiv (2 ^ (24 - 8 * k)) = (((wd b t).toNat / 2 ^ (24 - 8 * k) : Nat) : Int) := by
    rw [Int.fdiv_eq_ediv_of_nonneg _ (Int.le_of_lt (Int.pow_pos (by decide)))]; unfold wv; simp
  rw [e2, mask255, IntKind.wrap_u8, wd_nat]
  have h0 := (b.getD (4 * t) 0).toNat_lt
  have h1 := (b.getD (4 * t + 1) 0).toNat_lt
  have h2 := (b.getD (4 * t + 2) 0).toNat_lt
  have h3 := (b.getD (4 * t + 3) 0).toNat_lt
  match k, hk with
  | 0, _ => simp only [Nat.mul_zero, Nat.sub_zero, Nat.add_zero, Nat.reducePow]; omega
  | 1, _ => simp only [Nat.mul_one, Nat.reduceSub, Nat.reducePow]; omega
  | 2, _ => simp only [Nat.reduceMul, Nat.reduceSub, Nat.reducePow]; omega
  | 3, _ => simp only [Nat.reduceMul, Nat.reduceSub, Nat.reducePow]; omega
theorem spr_at (l : List UInt32) (hl : l.length = 64) : ∀ n, n ≤ 48 → ∀ t, 16 ≤ t → t < 16 + n → (spr l n).getD t 0 = (spr l n).getD (t - 16) 0 + sg0 ((spr l n).getD (t - 15) 0) + (spr l n).getD (t - 7) 0 + sg1 ((spr l n).getD (t - 2) 0)
  | 0, _, t, h1, h2 => by omega
  | n + 1, hn, t, h1, h2 => by
    have hs : ∀ j, j ≠ 16 + n → (spr l (n + 1)).getD j 0 = (spr l n).getD j 0 := fun j hj => by
      rw [spr]; simp only [List.getD_eq_getElem?_getD]; rw [List.getElem?_set_ne (Ne.symm hj)]
    rw [hs (t - 16) (by omega), hs (t - 15) (by omega), hs (t - 7) (by omega), hs (t - 2) (by omega)]
    by_cases he : t = 16 + n
    · subst he
      rw [spr]; simp only [List.getD_eq_getElem?_getD]
      rw [List.getElem?_set_self (by rw [spr_len, hl]; omega)]
      simp [wnext, List.getD_eq_getElem?_getD]
    · rw [hs t he]
      exact spr_at l hl n (by omega) t h1 (by omega)
theorem spread_at (b : List UInt8) (t : Nat) (h1 : 16 ≤ t) (h2 : t < 64) : (spread b).getD t 0 = (spread b).getD (t - 16) 0 + sg0 ((spread b).getD (t - 15) 0) + (spread b).getD (t - 7) 0 + sg1 ((spread b).getD (t - 2) 0) :=
  spr_at _ (pw_len b 64) 48 (by omega) t h1 (by omega)
theorem un_add (a p c q : UInt32) : a + p + c + q - p - c - q = a := by grind
def vz (w : List UInt32) (i j : Nat) : Int := if j < i then 0 else wv (w.getD j 0)
def vl (w : List UInt32) (t : Nat) : List UInt32 := (List.range 64).map fun j => if t < j + 16 then w.getD j 0 else 0
theorem vl_at (w : List UInt32) (t j : Nat) (hj : j < 64) : (vl w t).getD j 0 = if t < j + 16 then w.getD j 0 else 0 := by simp [vl, List.getD_eq_getElem?_getD, hj]
set_option maxHeartbeats 2000000 in
theorem bspread_law (b : List UInt8) (hb : b.length = 64) : APure Tryd.prog 4 [b64A b] (.lit (.bool true)) [] := by
  obtain ⟨V, vl_at, he⟩ : ∃ V : Nat → List UInt32, (∀ t j, j < 64 → (V t).getD j 0 = if t < j + 16 then (spread b).getD j 0 else 0) ∧ V 15 = spread b := by
    refine ⟨vl (spread b), vl_at (spread b), ?_⟩
    apply List.ext_getElem
    · simp [vl, rounds_len]
    · intro j h1 h2
      rw [rounds_len] at h2
      have := vl_at (spread b) 15 j h2
      rw [if_pos (by omega)] at this
      simpa [List.getD_eq_getElem?_getD, h1, rounds_len, h2] using this
  refine apure_of hT Tryd.func4 rfl ?_
  simp only [Tryd.ntmps4, List.length_cons, List.length_nil, Nat.reduceAdd, Nat.reduceSub, List.replicate, List.cons_append, List.nil_append]
  refine go ⟨?_⟩
  refine cal goBAwake bawake_p ⟨?_⟩
  refine go ⟨?_⟩
  refine calL goBSpread (bspread_p b hb) (les1 (.refl _)) ⟨?_⟩
  refine go ⟨?_⟩
  refine lp (fun t : {t : Nat // t ≤ 16} => [(5, int t.1), (2, .lit (.bool false))]) (fun _ => [{ T := 24, sz := 1, n := 64, f := fU8 b }, { T := 27, sz := 1, n := 64, f := fU32 (spread b) }]) (fun t => 16 - t.1) ⟨0, by omega⟩ ?_
  rintro ⟨t, ht⟩
  refine go ⟨?_⟩
  refine aw_if rfl (fun h => ?_) (fun h => ?_)
  · refine go ⟨?_⟩
    refine lp (fun k : {k : Nat // k ≤ 4} => [(6, int k.1), (2, .lit (.bool false))]) (fun _ => [{ T := 24, sz := 1, n := 64, f := fU8 b }, { T := 27, sz := 1, n := 64, f := fU32 (spread b) }]) (fun t => 4 - t.1) ⟨0, by omega⟩ ?_
    rintro ⟨k, hk⟩
    refine go ⟨?_⟩
    refine aw_if rfl (fun h => ?_) (fun h => ?_)
    · refine go ⟨?_⟩
      have e1 : (IntKind.i64.wrap (IntKind.i64.wrap (4 * (t : Int)) + (k : Int))).toNat = 4 * t + k := by simp only [IntKind.wrap_i64]; omega
      have e2 := oct_of b hb t k (by omega) (by omega)
      simp only [e2, e1, bne_self_eq_false]
      refine go ⟨?_⟩
      refine je ⟨⟨k + 1, by omega⟩, by simp only; omega, ?_⟩
      exact tel
    · refine go ⟨?_⟩
      refine je ⟨⟨t + 1, by omega⟩, by simp only; omega, ?_⟩
      exact tel
  refine go ⟨?_⟩
  refine lp (fun i : {i : Nat // i ≤ 48} => [(8, int i.1)]) (fun i => [{ T := 24, sz := 1, n := 64, f := fU8 b }, { T := 27, sz := 1, n := 64, f := fU32 (spread b) }, { T := 27, sz := 1, n := 64, f := fun j => [.lit (.int .u32 (vz (spread b) i.1 j))] }]) (fun t => 48 - t.1) ⟨0, by omega⟩ ?_ (h0 := by simp only [lst, junkL, setsL, setn]; exact Tells.le (by exact les) (.cons (.refl _) (.cons (.refl _) (.cons (.of (Nat.le_refl _) (fun h => h) fun k hk => by simp [vz, fU32, eU32]) .nil))))
  rintro ⟨i, hi⟩
  refine go ⟨?_⟩
  refine aw_if rfl (fun h => ?_) (fun h => ?_)
  · refine go ⟨?_⟩
    refine je ⟨⟨i + 1, by omega⟩, by simp only; omega, ?_⟩
    simp only [lst, junkL, setsL, setn]
    refine Tells.le (by exact les) (.cons (.refl _) (.cons (.refl _) (.cons (.of (Nat.le_refl _) (fun h => h) fun k hk => ?_) .nil)))
    unfold upd vz
    cases hj : Nat.beq k i with
    | true => obtain rfl := Nat.eq_of_beq_eq_true hj; simp
    | false =>
      have : k ≠ i := by rintro rfl; rw [Nat.beq_refl] at hj; cases hj
      simp only [List.cons.injEq, AV.lit.injEq, Value.int.injEq, true_and, and_true]
      by_cases h1 : k < i
      · rw [if_pos (by omega), if_pos h1]
      · rw [if_neg (by omega), if_neg h1]
  refine go ⟨?_⟩
  have hV : ∀ k, k < 64 → fU32 (V 63) k = [.lit (.int .u32 (vz (spread b) i k))] := fun k hk => by
    unfold fU32 eU32 vz
    rw [vl_at _ k hk]
    by_cases h1 : k < i
    · rw [if_pos h1, if_neg (by omega)]; rfl
    · rw [if_neg h1, if_pos (by omega)]
  refine lp (fun t : {t : Nat // 15 ≤ t ∧ t ≤ 63} => [(9, int t.1)]) (fun t => [{ T := 24, sz := 1, n := 64, f := fU8 b }, { T := 27, sz := 1, n := 64, f := fU32 (spread b) }, { T := 27, sz := 1, n := 64, f := fU32 (V t.1) }]) (fun t => t.1) ⟨63, by omega⟩ ?_ (h0 := by simp only [lst, junkL, setsL, setn]; exact Tells.le (by exact les) (.cons (.refl _) (.cons (.refl _) (.cons (.of (Nat.le_refl _) (fun h => h) hV) .nil))))
  rintro ⟨t, ht⟩
  refine go ⟨?_⟩
  refine aw_if rfl (fun h => ?_) (fun h => ?_)
  · refine go ⟨?_⟩
    refine je ⟨⟨t - 1, by omega⟩, by simp only; omega, ?_⟩
    simp only [lst, junkL, setsL, setn]
    refine Tells.le (by exact les) (.cons (.refl _) (.cons (.refl _) (.cons (.of (Nat.le_refl _) (fun h => h) fun k hk => ?_) .nil)))
    have hv : ∀ d : Nat, d < 16 → (V t).getD (t - d) 0 = (spread b).getD (t - d) 0 := fun d hd => by rw [vl_at _ _ (by omega), if_pos (by omega)]
    have i0 : (IntKind.i64.wrap ((t : Int) - 16)).toNat = t - 16 := by simp only [IntKind.wrap_i64]; omega
    have i1 : (IntKind.i64.wrap ((t : Int) - 15)).toNat = t - 15 := by simp only [IntKind.wrap_i64]; omega
    have i2 : (IntKind.i64.wrap ((t : Int) - 7)).toNat = t - 7 := by simp only [IntKind.wrap_i64]; omega
    have i3 : (IntKind.i64.wrap ((t : Int) - 2)).toNat = t - 2 := by simp only [IntKind.wrap_i64]; omega
    have hx := un_add ((spread b).getD (t - 16) 0) (sg0 ((spread b).getD (t - 15) 0)) ((spread b).getD (t - 7) 0) (sg1 ((spread b).getD (t - 2) 0))
    rw [← spread_at b t (by omega) (by omega)] at hx
    have k1 : (32 : UInt32) - 7 = UInt32.ofNat 25 := by decide
    have k2 : (32 : UInt32) - 18 = UInt32.ofNat 14 := by decide
    have k3 : (32 : UInt32) - 17 = UInt32.ofNat 15 := by decide
    have k4 : (32 : UInt32) - 19 = UInt32.ofNat 13 := by decide
    have j1 : (7 : UInt32) = UInt32.ofNat 7 := rfl
    have j2 : (18 : UInt32) = UInt32.ofNat 18 := rfl
    have j3 : (17 : UInt32) = UInt32.ofNat 17 := rfl
    have j4 : (19 : UInt32) = UInt32.ofNat 19 := rfl
    have j5 : (3 : UInt32) = UInt32.ofNat 3 := rfl
    have j6 : (10 : UInt32) = UInt32.ofNat 10 := rfl
    simp only [sg0, sg1, rotr, k1, k2, k3, k4] at hx
    rw [j1, j2, j3, j4, j5, j6] at hx
    simp only [i0, i1, i2, i3, hv 15 (by omega), hv 7 (by omega), hv 2 (by omega), show (V t).getD t 0 = (spread b).getD t 0 from hv 0 (by omega), eg_shr _ 7 (by decide), eg_shr _ 18 (by decide), eg_shr _ 3 (by decide), eg_shr _ 17 (by decide), eg_shr _ 19 (by decide), eg_shr _ 10 (by decide), eg_shl _ 25 (by decide), eg_shl _ 14 (by decide), eg_shl _ 15 (by decide), eg_shl _ 13 (by decide), eg_or, eg_xor, eg_sub]
    unfold upd
    cases hj : Nat.beq k (t - 16) with
    | true =>
      obtain rfl := Nat.eq_of_beq_eq_true hj
      unfold fU32 eU32
      rw [vl_at _ _ hk, if_pos (by omega)]
      simp only [List.drop_succ_cons, List.drop_zero]
      exact congrArg (fun x => [AV.lit (Value.int .u32 (wv x))]) hx.symm
    | false =>
      have : k ≠ t - 16 := by rintro rfl; rw [Nat.beq_refl] at hj; cases hj
      unfold fU32
      rw [vl_at _ _ hk, vl_at _ _ hk]
      by_cases h1 : t < k + 16
      · rw [if_pos (by omega), if_pos h1]
      · rw [if_neg (by omega), if_neg h1]
  obtain rfl : t = 15 := by omega
  rw [he]
  clear he vl_at hV
  repeat (first | with_reducible refine aw_exit ?_ | with_reducible refine then_exit ?_ | ((with_reducible refine inb_exit_ ?_); first | refine inb_exit rfl ?_ | refine inb_other rfl ?_) | with_reducible refine then_norm ?_ | with_reducible refine aw_seq ?_ | with_reducible refine aw_region ?_)
  refine al_pure hT rfl rfl trivial ?_
  refine al_pure hT rfl rfl trivial ?_
  refine nz ⟨?_⟩
  refine al_pure hT rfl rfl ⟨rfl, rfl⟩ ?_
  refine al_pure hT rfl rfl ⟨rfl, rfl⟩ ?_
  refine nz ⟨?_⟩
  refine al_pure hT rfl rfl ⟨isInts_u32 _ _, isInts_u32 _ _⟩ ?_
  rw [arrEq_refl]
  refine nz ⟨?_⟩
  refine go ⟨?_⟩
  exact fin
theorem goBSpreadLaw : GoFn Tryd.prog 4 := ⟨_, _, Tryd.func4, by kernel_rfl, rfl⟩
end Go.Proofs.YthcoccoanpmhgaaDoor
