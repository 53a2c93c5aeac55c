/- WireOnly, walked. -/
import Derived.Test.YthdckgcalooipaaWIs
namespace Go.Proofs.Ythdckgcalooipaa
open Go.RowKit
attribute [local irreducible] IterP RoundP ADr AL AW Then InBlock RetP Tells APure ACall
set_option linter.unusedVariables false
set_option linter.unusedSimpArgs false
set_option maxRecDepth 100000
theorem wgetBytes_err (b : List UInt8) (h : (wgetBytes b).2.2 ≠ 0) : (wgetBytes b).1 = [] ∧ (wgetBytes b).2.1 = [] := by
  unfold wgetBytes at *
  split
  · exact ⟨rfl, rfl⟩
  · split
    · exact ⟨rfl, rfl⟩
    · split
      · exact ⟨rfl, rfl⟩
      · rename_i h1 h2 h3
        rw [if_neg h1, if_neg h2, if_neg h3] at h
        exact (h rfl).elim
theorem wputBytes_get (b : List UInt8) (h : (wgetBytes b).2.2 = 0) : wputBytes [] (wgetBytes b).1 ++ (wgetBytes b).2.1 = b := by
  have h0 := vget_nonneg b
  have h1 := vput_get b
  unfold wgetBytes at *
  generalize vget b = x at *
  obtain ⟨n, v, e⟩ := x
  simp only at *
  split at h
  · contradiction
  · split at h
    · simp at h
    · split at h
      · simp at h
      · rename_i g1 g2 g3
        rw [if_neg g1, if_neg g2, if_neg g3]
        obtain ⟨k1, k2⟩ := h1 (by simpa using g1)
        have hl : (v.take n.toNat).length = n.toNat := by rw [List.length_take]; omega
        unfold wputBytes
        simp only
        rw [if_neg (by omega), hl, Int.toNat_of_nonneg h0, List.nil_append, List.append_assoc, List.take_append_drop, k1]
theorem nby_be (l : List UInt8) (h : l.length = 4) : nby (beNum 0 l) 4 = l := by
  match l, h with
  | [a, b, c, d], _ =>
    have ha := a.toNat_lt
    have hb := b.toNat_lt
    have hc := c.toNat_lt
    have hd := d.toNat_lt
    rw [nby4]
    have e : beNum 0 [a, b, c, d] = a.toNat * 16777216 + b.toNat * 65536 + c.toNat * 256 + d.toNat := by simp [beNum]; omega
    rw [e, u8_eq (x := a) (by omega), u8_eq (x := b) (by omega), u8_eq (x := c) (by omega), u8_eq (x := d) (by omega)]
theorem cat4_nums4 : ∀ (n : Nat) (v : List UInt8), v.length = 4 * n → cat4 (nums4 v n) = v
  | 0, v, h => by
    have : v = [] := List.length_eq_zero_iff.1 (by omega)
    subst this; rfl
  | n + 1, v, h => by
    have ih := cat4_nums4 n (v.drop 4) (by rw [List.length_drop]; omega)
    have e : nums4 v (n + 1) = beNum 0 (v.take 4) :: nums4 (v.drop 4) n := by
      unfold nums4
      rw [List.range_succ_eq_map, List.map_cons, List.map_map]
      refine List.cons_eq_cons.2 ⟨by simp, map_congr' fun i _ => ?_⟩
      simp only [Function.comp, Nat.succ_eq_add_one, List.drop_drop]
      rw [show (i + 1) * 4 = 4 + i * 4 by omega]
    rw [e]
    unfold cat4 at *
    rw [List.map_cons, List.flatten_cons, ih, nby_be _ (by rw [List.length_take]; omega), List.take_append_drop]
theorem wputNums_get (b : List UInt8) (h : (wgetNums b).2.2 = 0) : (wgetBytes b).2.2 = 0 ∧ wputBytes [] (cat4 (wgetNums b).1) ++ (wgetNums b).2.1 = b := by
  have h1 := wputBytes_get b
  unfold wgetNums at *
  generalize wgetBytes b = x at *
  obtain ⟨v, r, e⟩ := x
  simp only at *
  split at h
  · contradiction
  · split at h
    · simp at h
    · rename_i g1 g2
      rw [if_neg g1, if_neg g2]
      simp only
      rw [cat4_nums4 _ _ (by omega)]
      exact ⟨by simpa using g1, h1 (by simpa using g1)⟩
theorem wgetNums_err (b : List UInt8) (h : (wgetNums b).2.2 ≠ 0) : (wgetNums b).1 = [] ∧ (wgetNums b).2.1 = [] := by
  unfold wgetNums at *
  split
  · exact ⟨rfl, rfl⟩
  · split
    · exact ⟨rfl, rfl⟩
    · rename_i h1 h2
      rw [if_neg h1, if_neg h2] at h
      exact (h rfl).elim
theorem wgetFlag_cases (b : List UInt8) : ((wgetFlag b).2.2 ≠ 0 ∧ (wgetFlag b).1 = false ∧ (wgetFlag b).2.1 = []) ∨ ((wgetFlag b).2.2 = 0 ∧ nby (bif (wgetFlag b).1 then 1 else 0) 1 ++ (wgetFlag b).2.1 = b) := by
  match b with
  | [] => exact .inl ⟨by decide, rfl, rfl⟩
  | x :: r =>
    have hx := x.toNat_lt
    have e : wgetFlag (x :: r) = if (x.toNat : Int) > 1 then (false, [], 2) else ((x.toNat : Int) == 1, r, 0) := by
      have e1 : wgetNum (x :: r) 1 = ((x.toNat : Int), r, 0) := by simp [wgetNum, show wcount 1 = 1 from rfl, beNum]
      unfold wgetFlag
      rw [e1]
      simp
    rw [e]
    split
    · exact .inl ⟨by decide, rfl, rfl⟩
    · refine .inr ⟨rfl, ?_⟩
      have : x.toNat = 0 ∨ x.toNat = 1 := by omega
      rcases this with h | h
      · have e0 : x = 0 := UInt8.toNat_inj.1 h
        subst e0; rfl
      · have e0 : x = 1 := UInt8.toNat_inj.1 h
        subst e0; rfl
set_option maxHeartbeats 2000000 in
theorem only_law (b : List UInt8) : APure Try.prog 7 [bytes b] (.lit (.bool true)) [] := by
  refine apure_of hT Try.func7 rfl ?_
  simp only [Try.ntmps7, List.length_cons, List.length_nil, Nat.reduceAdd, Nat.reduceSub, List.replicate, List.cons_append, List.nil_append]
  refine go ⟨?_⟩
  refine cal goAwake awake_p ⟨?_⟩
  by_cases h1 : b.length > 1000
  · refine go ⟨?_⟩
    exact fin
  refine go ⟨?_⟩
  refine cal goGetBytes (getBytes_p b) ⟨?_⟩
  refine go ⟨?_⟩
  refine cal goGetNums (getNums_p b) ⟨?_⟩
  refine go ⟨?_⟩
  refine cal goGetFlag (getFlag_p b) ⟨?_⟩
  refine go ⟨?_⟩
  have hgl := wgetNums_len b
  have fl := wgetFlag_cases b
  have one : ∀ t : Bool, (nby (bif t then 1 else 0) 1).length = 1 := fun t => by rw [nby_len]; rfl
  generalize wgetFlag b = y at *
  obtain ⟨x, t, g⟩ := y
  simp only at fl ⊢
  by_cases he : (wgetBytes b).2.2 = 0
  · have hp := wputBytes_get b he
    have hl := congrArg List.length hp
    rw [List.length_append] at hl
    refine go ⟨?_⟩
    refine cal goPutBytes (putBytes_p [] (wgetBytes b).1 (by simp)) ⟨?_⟩
    refine go ⟨?_⟩
    rw [hp]
    refine go ⟨?_⟩
    by_cases hf : (wgetNums b).2.2 = 0
    · have hq := (wputNums_get b hf).2
      have hl' := congrArg List.length hq
      rw [List.length_append] at hl'
      refine go ⟨?_⟩
      refine cal goPutNums (putNums_p [] (wgetNums b).1 (by simp) (by omega)) ⟨?_⟩
      refine go ⟨?_⟩
      rw [hq]
      refine go ⟨?_⟩
      rcases fl with ⟨f1, f2, f3⟩ | ⟨f1, f2⟩
      · subst f2 f3
        refine go ⟨?_⟩
        exact fin
      · have hlf := congrArg List.length f2
        rw [List.length_append, one] at hlf
        have o1 := one x
        refine go ⟨?_⟩
        refine cal goPutFlag (putFlag_p [] x (by simp)) ⟨?_⟩
        simp only [List.nil_append]
        refine go ⟨?_⟩
        rw [f2]
        refine go ⟨?_⟩
        exact fin
    · obtain ⟨e1, e2⟩ := wgetNums_err b hf
      rw [e1, e2]
      refine go ⟨?_⟩
      rcases fl with ⟨f1, f2, f3⟩ | ⟨f1, f2⟩
      · subst f2 f3
        refine go ⟨?_⟩
        exact fin
      · have hlf := congrArg List.length f2
        rw [List.length_append, one] at hlf
        have o1 := one x
        refine go ⟨?_⟩
        refine cal goPutFlag (putFlag_p [] x (by simp)) ⟨?_⟩
        simp only [List.nil_append]
        refine go ⟨?_⟩
        rw [f2]
        refine go ⟨?_⟩
        exact fin
  · obtain ⟨e3, e4⟩ := wgetBytes_err b he
    have hf : ¬ (wgetNums b).2.2 = 0 := fun h => he (wputNums_get b h).1
    obtain ⟨e1, e2⟩ := wgetNums_err b hf
    rw [e1, e2, e3, e4]
    refine go ⟨?_⟩
    rcases fl with ⟨f1, f2, f3⟩ | ⟨f1, f2⟩
    · subst f2 f3
      refine go ⟨?_⟩
      exact fin
    · have hlf := congrArg List.length f2
      rw [List.length_append, one] at hlf
      have o1 := one x
      refine go ⟨?_⟩
      refine cal goPutFlag (putFlag_p [] x (by simp)) ⟨?_⟩
      simp only [List.nil_append]
      refine go ⟨?_⟩
      rw [f2]
      refine go ⟨?_⟩
      exact fin
end Go.Proofs.Ythdckgcalooipaa
