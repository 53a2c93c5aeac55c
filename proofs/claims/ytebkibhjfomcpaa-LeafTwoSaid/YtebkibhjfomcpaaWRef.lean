/- The document's answer for layers 1 and 2, walked. -/
import Derived.Test.YtebkibhjfomcpaaWPureB
namespace Go.Proofs.Ytebkibhjfomcpaa
open Go.RowKit
attribute [local irreducible] EachR AO IterP RoundP ADr AL AW Then InBlock RetP Tells APure ACall
set_option linter.unusedVariables false
set_option linter.unusedSimpArgs false
set_option maxRecDepth 100000
theorem rsize_p (n : Int) : APure Try.prog 45 [int n] (int (vsize n)) [] := by
  refine apure_of hT Try.func45 rfl ?_
  simp only [Try.ntmps45, List.length_cons, List.length_nil, Nat.reduceAdd, Nat.reduceSub, List.replicate, List.cons_append, List.nil_append]
  unfold vsize
  exact auto
theorem goRSize : GoFn Try.prog 45 := ⟨_, _, Try.func45, by kernel_rfl, rfl⟩
theorem rcount_p (k : Int) : APure Try.prog 40 [int k] (int (wcount k : Nat)) [] := by
  refine apure_of hT Try.func40 rfl ?_
  simp only [Try.ntmps40, List.length_cons, List.length_nil, Nat.reduceAdd, Nat.reduceSub, List.replicate, List.cons_append, List.nil_append]
  unfold wcount
  exact auto
theorem goRCount : GoFn Try.prog 40 := ⟨_, _, Try.func40, by kernel_rfl, rfl⟩
set_option maxRecDepth 100000 in
theorem rput_p (b : List UInt8) (n : Int) (hb : b.length ≤ 140737488354000) : APure Try.prog 43 [bytes b, int n] (.row 0 1 0 (b ++ vput n).length none) [oU8 (b ++ vput n)] := by
  refine apure_of hT Try.func43 rfl ?_
  simp only [Try.ntmps43, List.length_cons, List.length_nil, Nat.reduceAdd, Nat.reduceSub, List.replicate, List.cons_append, List.nil_append]
  refine go ⟨?_⟩
  refine al_app (fU8 b) hT rfl rfl rfl rfl (by simp; omega) (fun k hk => fU8_app (xs := []) rfl hk) ?_
  refine go ⟨?_⟩
  refine cal goRSize (rsize_p n) ⟨?_⟩
  by_cases hz : vsize n = 0
  · have hp := (vput_none hz).1
    rw [hz, hp]
    refine go ⟨?_⟩
    exact fin
  have h0' : 0 ≤ n := by rcases vput_cases n hz with ⟨h, _⟩ | ⟨h, _⟩ | ⟨h, _⟩ <;> omega
  rcases vput_cases n hz with ⟨h0, h1, h2, h3⟩ | ⟨h0, h1, h2, h3⟩ | ⟨h0, h1, h2, h3⟩
  · rw [h2, h3]
    refine go ⟨?_⟩
    refine al_app (fU8 (b ++ [u8of n])) hT rfl rfl rfl rfl (by simp; omega) (appU8 (l := [IntKind.u8.wrap n]) (by simp) rfl (by simp [u8of_toNat])) ?_
    refine go ⟨?_⟩
    exact fin
  · rw [h2, h3]
    refine go ⟨?_⟩
    refine al_app (fU8 (b ++ [u8of (64 + n / 256), u8of n])) hT rfl rfl rfl rfl (by simp; omega) (appU8 (l := [IntKind.u8.wrap (IntKind.i64.wrap (64 + IntKind.i64.wrap (n.tdiv 256))), IntKind.u8.wrap (n.tmod 256)]) (by simp) rfl (by
      simp only [List.map, u8of_toNat, IntKind.wrap_u8, IntKind.wrap_i64, List.cons.injEq, and_true]; rw [Int.tdiv_eq_ediv_of_nonneg h0', Int.tmod_eq_emod_of_nonneg h0']; omega)) ?_
    refine go ⟨?_⟩
    exact fin
  · rw [h2, h3]
    refine go ⟨?_⟩
    refine al_app (fU8 (b ++ [u8of (128 + n / 16777216), u8of (n / 65536), u8of (n / 256), u8of n])) hT rfl rfl rfl rfl (by simp; omega) (appU8 (l := [IntKind.u8.wrap (IntKind.i64.wrap (128 + IntKind.i64.wrap (n.tdiv 16777216))), IntKind.u8.wrap ((IntKind.i64.wrap (n.tdiv 65536)).tmod 256), IntKind.u8.wrap ((IntKind.i64.wrap (n.tdiv 256)).tmod 256), IntKind.u8.wrap (n.tmod 256)]) (by simp) rfl (by
      simp only [List.map, u8of_toNat, IntKind.wrap_u8, IntKind.wrap_i64, List.cons.injEq, and_true]; simp only [Int.tdiv_eq_ediv_of_nonneg h0']; rw [Int.tmod_eq_emod_of_nonneg (by omega), Int.tmod_eq_emod_of_nonneg (by omega), Int.tmod_eq_emod_of_nonneg h0']; omega)) ?_
    refine go ⟨?_⟩
    exact fin
theorem goRPut : GoFn Try.prog 43 := ⟨_, _, Try.func43, by kernel_rfl, rfl⟩
theorem vlen_cases (x : UInt8) : (x.toNat < 64 ∧ vlen x = 1) ∨ (64 ≤ x.toNat ∧ x.toNat < 128 ∧ vlen x = 2) ∨ (128 ≤ x.toNat ∧ x.toNat < 192 ∧ vlen x = 4) ∨ (192 ≤ x.toNat ∧ vlen x = 0) := by
  unfold vlen; split
  · exact .inl (by omega)
  · split
    · exact .inr (.inl (by omega))
    · split
      · exact .inr (.inr (.inl (by omega)))
      · exact .inr (.inr (.inr (by omega)))
theorem rget_p (b : List UInt8) : APure Try.prog 39 [bytes b] (.tup [int (vget b).1, bytes (vget b).2.1, int (vget b).2.2]) [] := by
  refine apure_of hT Try.func39 rfl ?_
  simp only [Try.ntmps39, List.length_cons, List.length_nil, Nat.reduceAdd, Nat.reduceSub, List.replicate, List.cons_append, List.nil_append]
  rcases b with _ | ⟨x, r⟩
  · refine go ⟨?_⟩
    exact fin
  have hx := UInt8.toNat_lt x
  refine go ⟨?_⟩
  have hc := vlen_cases x
  by_cases h0 : vlen x = 0
  · rw [vget_bad (.inl h0), if_pos h0]
    refine go ⟨?_⟩
    exact fin
  refine jn [(5, int (vlen x : Nat))] [] ?_ ?_
  · exact auto
  generalize hk : vlen x = k at *
  have hk4 : 1 ≤ k ∧ k ≤ 4 := by omega
  refine go ⟨?_⟩
  refine aw_if rfl (fun h => ?_) (fun h => ?_)
  · rw [vget_bad (.inr (by simp at h; omega)), if_neg (by omega)]
    refine go ⟨?_⟩
    exact fin
  have hkr : k ≤ r.length + 1 := by simp at h; omega
  refine go ⟨?_⟩
  have e0 : (IntKind.i64.wrap (x.toNat : Int)).tmod 64 = beNum (x.toNat % 64 : Int) (r.take 0) := by
    rw [IntKind.wrap_i64, Int.tmod_eq_emod_of_nonneg (by omega)]; simp [beNum]; omega
  refine lp (fun i : {i : Nat // i + 1 ≤ k} => [(6, int (beNum (x.toNat % 64 : Int) (r.take i.1))), (7, int (i.1 + 1 : Nat))]) (fun _ => []) (fun i => k - i.1) ⟨0, by omega⟩ ?_
  rintro ⟨i, hi⟩
  obtain ⟨b0, b1⟩ := beNum_bd3 (x.toNat % 64 : Int) (r.take i) (by omega) (by omega) (by rw [List.length_take]; omega)
  refine go ⟨?_⟩
  refine aw_if rfl (fun h => ?_) (fun h => ?_)
  · refine go ⟨?_⟩
    have e1 : IntKind.i64.wrap (IntKind.i64.wrap (beNum (x.toNat % 64 : Int) (r.take i) * 256) + IntKind.i64.wrap (((x :: r).getD (i + 1) 0).toNat : Int)) = beNum (x.toNat % 64 : Int) (r.take (i + 1)) := by
      have hb := UInt8.toNat_lt r[i]
      rw [beNum_take _ _ _ (show i < r.length by omega), show (x :: r).getD (i + 1) 0 = r[i] by simp [List.getD_eq_getElem?_getD, show i < r.length by omega]]
      simp only [IntKind.wrap_i64]; omega
    refine je ⟨⟨i + 1, by omega⟩, by simp only; omega, ?_⟩
    exact tel
  · obtain rfl : k = i + 1 := by omega
    refine go ⟨?_⟩
    refine cal goRSize (rsize_p _) ⟨?_⟩
    refine go ⟨?_⟩
    rw [vget_ok (by omega) (by omega), hk, Nat.add_sub_cancel]
    refine aw_if rfl (fun h => ?_) (fun h => ?_)
    · rw [if_pos h]
      refine go ⟨?_⟩
      exact fin
    · rw [if_neg h]
      refine go ⟨?_⟩
      exact fin
theorem goRGet : GoFn Try.prog 39 := ⟨_, _, Try.func39, by kernel_rfl, rfl⟩
theorem and_mask (m : Int) (k : Nat) (hk : k < 63) : IntKind.i64.wrap ((BitVec.ofInt IntKind.i64.bits m &&& BitVec.ofInt IntKind.i64.bits (2 ^ k - 1)).toNat : Int) = m % 2 ^ k := by
  have hp : (2 : Nat) ^ k ≤ 2 ^ 62 := Nat.pow_le_pow_right (by decide) (by omega)
  have hp1 : 0 < (2 : Nat) ^ k := Nat.two_pow_pos k
  have e1 : ((2 : Int) ^ k - 1) = ((2 ^ k - 1 : Nat) : Int) := by rw [Int.natCast_sub hp1]; simp
  have e2 : (BitVec.ofInt IntKind.i64.bits ((2 : Int) ^ k - 1)).toNat = 2 ^ k - 1 := by
    rw [e1, BitVec.ofInt_natCast, BitVec.toNat_ofNat, Nat.mod_eq_of_lt]
    show _ < 2 ^ 64
    omega
  rw [BitVec.toNat_and, e2, Nat.and_two_pow_sub_one_eq_mod, BitVec.toNat_ofInt]
  have hlt : ((m % ((2 ^ IntKind.i64.bits : Nat) : Int)).toNat % 2 ^ k : Nat) < 2 ^ 62 := Nat.lt_of_lt_of_le (Nat.mod_lt _ hp1) hp
  have h0 : 0 ≤ m % ((2 ^ IntKind.i64.bits : Nat) : Int) := Int.emod_nonneg _ (by decide)
  have e3 : (((m % ((2 ^ IntKind.i64.bits : Nat) : Int)).toNat % 2 ^ k : Nat) : Int) = m % 2 ^ k := by
    rw [Int.natCast_emod, Int.toNat_of_nonneg h0]
    have hd : (((2 ^ k : Nat)) : Int) ∣ ((2 ^ IntKind.i64.bits : Nat) : Int) := Int.ofNat_dvd.2 (Nat.pow_dvd_pow 2 (by show k ≤ 64; omega))
    rw [Int.emod_emod_of_dvd _ hd]; simp
  rw [← e3, IntKind.wrap_i64]
  omega
theorem rputNum_p (b : List UInt8) (n k : Int) (hb : b.length ≤ 140737488354000) : APure Try.prog 35 [bytes b, int n, int k] (.row 0 1 0 (b ++ nby n k).length none) [oU8 (b ++ nby n k)] := by
  refine apure_of hT Try.func35 rfl ?_
  simp only [Try.ntmps35, List.length_cons, List.length_nil, Nat.reduceAdd, Nat.reduceSub, List.replicate, List.cons_append, List.nil_append]
  refine go ⟨?_⟩
  refine al_app (fU8 b) hT rfl rfl rfl rfl (by simp; omega) (fun k hk => fU8_app (xs := []) rfl hk) ?_
  refine go ⟨?_⟩
  refine cal goRCount (rcount_p k) ⟨?_⟩
  refine go ⟨?_⟩
  have hc : 1 ≤ wcount k ∧ wcount k ≤ 4 := by unfold wcount; omega
  unfold nby
  generalize wcount k = c at *
  have e0 : nbytes n c 0 = [] := rfl
  refine lp (fun i : {i : Nat // i ≤ c} => [(7, .row 0 1 0 (b.length + i.1) none), (8, int (c - 1 - i.1)), (11, .junk)]) (fun i => [oU8 (b ++ nbytes n c i.1)]) (fun i => c - i.1) ⟨0, by omega⟩ ?_
  rintro ⟨i, hi⟩
  refine go ⟨?_⟩
  refine aw_if rfl (fun h => ?_) (fun h => ?_)
  · refine go ⟨?_⟩
    have hci : (c - 1 - i : Nat) = (c : Int) - 1 - i := by omega
    have e1 : nbytes n c (i + 1) = nbytes n c i ++ [u8of (n.fdiv (2 ^ (8 * (c - 1 - i))))] := by simp [nbytes, List.range_succ]
    rw [show min (IntKind.u64.wrap (IntKind.i64.wrap (8 * ((c : Int) - 1 - i)))).toNat IntKind.i64.bits = 8 * (c - 1 - i) by simp only [IntKind.wrap_i64, IntKind.wrap_u64, IntKind.bits]; omega]
    rw [show (255 : Int) = 2 ^ 8 - 1 from rfl, and_mask _ 8 (by decide)]
    refine al_app (fU8 (b ++ nbytes n c (i + 1))) hT rfl rfl rfl rfl (by simp [nbytes]; omega) (fun k hk => by
      rw [e1, ← List.append_assoc]
      exact appU8 (ys := [u8of (n.fdiv (2 ^ (8 * (c - 1 - i))))]) (l := [IntKind.u8.wrap (n.fdiv (2 ^ (8 * (c - 1 - i))) % 2 ^ 8)]) (by simp [nbytes]) rfl (by simp [u8of_toNat, IntKind.wrap_u8]) k hk) ?_
    refine go ⟨?_⟩
    refine je ⟨⟨i + 1, by omega⟩, by simp only; omega, ?_⟩
    have e2 : (nbytes n c (i + 1)).length = i + 1 := by simp [nbytes]
    exact tel
  · obtain rfl : i = c := by omega
    have e2 : (nbytes n i i).length = i := by simp [nbytes]
    refine go ⟨?_⟩
    exact fin
theorem goRPutNum : GoFn Try.prog 35 := ⟨_, _, Try.func35, by kernel_rfl, rfl⟩
theorem rgetNum_p (b : List UInt8) (k : Int) : APure Try.prog 28 [bytes b, int k] (.tup [int (wgetNum b k).1, bytes (wgetNum b k).2.1, int (wgetNum b k).2.2]) [] := by
  refine apure_of hT Try.func28 rfl ?_
  simp only [Try.ntmps28, List.length_cons, List.length_nil, Nat.reduceAdd, Nat.reduceSub, List.replicate, List.cons_append, List.nil_append]
  refine go ⟨?_⟩
  refine cal goRCount (rcount_p k) ⟨?_⟩
  refine go ⟨?_⟩
  have hc : wcount k ≤ 4 := by unfold wcount; omega
  unfold wgetNum
  generalize wcount k = c at *
  refine aw_if rfl (fun h => ?_) (fun h => ?_)
  · rw [if_pos (by omega)]
    refine go ⟨?_⟩
    exact fin
  rw [if_neg (by omega)]
  refine go ⟨?_⟩
  refine lp (fun i : {i : Nat // i ≤ c} => [(8, int (beNum 0 (b.take i.1))), (9, int i.1)]) (fun _ => []) (fun i => c - i.1) ⟨0, by omega⟩ ?_
  rintro ⟨i, hi⟩
  obtain ⟨b0, b1⟩ := beNum_bd4 (b.take i) (by rw [List.length_take]; omega)
  refine go ⟨?_⟩
  refine aw_if rfl (fun h => ?_) (fun h => ?_)
  · refine go ⟨?_⟩
    have hib : i < b.length := by omega
    have e1 : IntKind.i64.wrap (IntKind.i64.wrap (beNum 0 (b.take i) * 256) + IntKind.i64.wrap ((b.getD i 0).toNat : Int)) = beNum 0 (b.take (i + 1)) := by
      have hb := UInt8.toNat_lt b[i]
      rw [beNum_take _ _ _ hib, show b.getD i 0 = b[i] by simp [List.getD_eq_getElem?_getD, hib]]
      simp only [IntKind.wrap_i64]; omega
    refine je ⟨⟨i + 1, by omega⟩, by simp only; omega, ?_⟩
    exact tel
  · obtain rfl : i = c := by omega
    refine go ⟨?_⟩
    exact fin
theorem goRGetNum : GoFn Try.prog 28 := ⟨_, _, Try.func28, by kernel_rfl, rfl⟩
theorem rputBytes_p (b v : List UInt8) (hb : b.length ≤ 140737480000000) : APure Try.prog 34 [bytes b, bytes v] (.row 0 1 0 (wputBytes b v).length none) [oU8 (wputBytes b v)] := by
  refine apure_of hT Try.func34 rfl ?_
  simp only [Try.ntmps34, List.length_cons, List.length_nil, Nat.reduceAdd, Nat.reduceSub, List.replicate, List.cons_append, List.nil_append]
  refine go ⟨?_⟩
  refine al_app (fU8 b) hT rfl rfl rfl rfl (by simp; omega) (fun k hk => fU8_app (xs := []) rfl hk) ?_
  refine go ⟨?_⟩
  unfold wputBytes
  refine aw_if rfl (fun h => ?_) (fun h => ?_)
  · rw [if_pos (by omega)]
    refine go ⟨?_⟩
    exact fin
  rw [if_neg (by omega)]
  have h4 := vput_len4 (v.length : Int)
  refine go ⟨?_⟩
  refine cal goRPut (rput_p b v.length (by omega)) ⟨?_⟩
  refine go ⟨?_⟩
  refine al_app (fU8 (b ++ vput v.length ++ v)) hT rfl rfl rfl rfl (by simp; omega) (fun k hk => fU8_app rfl hk) ?_
  refine go ⟨?_⟩
  exact fin
theorem goRPutBytes : GoFn Try.prog 34 := ⟨_, _, Try.func34, by kernel_rfl, rfl⟩
theorem rgetBytes_p (b : List UInt8) : APure Try.prog 27 [bytes b] (.tup [bytes (wgetBytes b).1, bytes (wgetBytes b).2.1, int (wgetBytes b).2.2]) [] := by
  refine apure_of hT Try.func27 rfl ?_
  simp only [Try.ntmps27, List.length_cons, List.length_nil, Nat.reduceAdd, Nat.reduceSub, List.replicate, List.cons_append, List.nil_append]
  refine go ⟨?_⟩
  refine cal goRGet (rget_p b) ⟨?_⟩
  have h0 := vget_nonneg b
  unfold wgetBytes
  generalize vget b = x at *
  obtain ⟨n, v, e⟩ := x
  simp only at h0 ⊢
  refine go ⟨?_⟩
  refine aw_if rfl (fun h => ?_) (fun h => ?_)
  · rw [if_pos h]
    refine go ⟨?_⟩
    exact fin
  rw [if_neg h]
  refine go ⟨?_⟩
  refine aw_if rfl (fun h => ?_) (fun h => ?_)
  · rw [if_pos h]
    refine go ⟨?_⟩
    exact fin
  rw [if_neg h]
  refine go ⟨?_⟩
  refine aw_if rfl (fun h => ?_) (fun h => ?_)
  · rw [if_pos h]
    refine go ⟨?_⟩
    exact fin
  rw [if_neg (by omega)]
  refine go ⟨?_⟩
  exact fin
theorem goRGetBytes : GoFn Try.prog 27 := ⟨_, _, Try.func27, by kernel_rfl, rfl⟩
end Go.Proofs.Ytebkibhjfomcpaa
