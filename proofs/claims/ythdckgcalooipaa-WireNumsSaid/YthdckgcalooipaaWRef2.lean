/- The document's answer for layer 2, walked: lists. -/
import Derived.Test.YthdckgcalooipaaWRef
namespace Go.Proofs.Ythdckgcalooipaa
open Go.RowKit
attribute [local irreducible] IterP RoundP ADr AL AW Then InBlock RetP Tells APure ACall
set_option linter.unusedVariables false
set_option linter.unusedSimpArgs false
set_option maxRecDepth 100000
theorem rputNums_p (b : List UInt8) (l : List Int) (hb : b.length ≤ 140737480000000) (hl : l.length ≤ 1000000) : APure Try.prog 24 [bytes b, ints l] (.row 0 1 0 (wputBytes b (cat4 l)).length none) [oU8 (wputBytes b (cat4 l))] := by
  refine apure_of hT Try.func24 rfl ?_
  simp only [Try.ntmps24, List.length_cons, List.length_nil, Nat.reduceAdd, Nat.reduceSub, List.replicate, List.cons_append, List.nil_append]
  refine go ⟨?_⟩
  refine lp (fun i : {i : Nat // i ≤ l.length} => [(5, bytes (cat4 (l.take i.1))), (6, int i.1)]) (fun _ => []) (fun i => l.length - i.1) ⟨0, by omega⟩ ?_
  rintro ⟨i, hi⟩
  refine go ⟨?_⟩
  refine aw_if rfl (fun h => ?_) (fun h => ?_)
  · have hlt : i < l.length := by omega
    have hcl := cat4_len (l.take i)
    rw [List.length_take] at hcl
    refine go ⟨?_⟩
    rw [show l.getD i 0 = l[i] by simp [List.getD_eq_getElem?_getD, hlt]]
    refine cal goRPutNum ((rputNum_p (cat4 (l.take i)) l[i] 4 (by omega)).data rfl (Nat.le_of_eq (Nat.zero_add _))) ⟨?_⟩
    have hsn := cat4_snoc l i hlt
    rw [← hsn]
    refine go ⟨?_⟩
    refine je ⟨⟨i + 1, by omega⟩, by simp only; omega, ?_⟩
    exact tel
  · obtain rfl : i = l.length := by omega
    rw [List.take_length]
    refine go ⟨?_⟩
    refine cal goRPutBytes (rputBytes_p b (cat4 l) hb) ⟨?_⟩
    refine go ⟨?_⟩
    exact fin
theorem goRPutNums : GoFn Try.prog 24 := ⟨_, _, Try.func24, by kernel_rfl, rfl⟩
theorem rgetFlag_p (b : List UInt8) : APure Try.prog 18 [bytes b] (.tup [.lit (.bool (wgetFlag b).1), bytes (wgetFlag b).2.1, int (wgetFlag b).2.2]) [] := by
  refine apure_of hT Try.func18 rfl ?_
  simp only [Try.ntmps18, List.length_cons, List.length_nil, Nat.reduceAdd, Nat.reduceSub, List.replicate, List.cons_append, List.nil_append]
  rcases b with _ | ⟨x, r⟩
  · refine go ⟨?_⟩
    exact fin
  have e : wgetFlag (x :: r) = if (x.toNat : Int) > 1 then (false, [], 2) else ((x.toNat : Int) == 1, r, 0) := by
    have e1 : wgetNum (x :: r) 1 = ((x.toNat : Int), r, 0) := by simp [wgetNum, show wcount 1 = 1 from rfl, beNum]
    unfold wgetFlag
    rw [e1]
    simp
  rw [e]
  refine go ⟨?_⟩
  refine aw_if rfl (fun h => ?_) (fun h => ?_)
  · rw [if_pos (by omega)]
    refine go ⟨?_⟩
    exact fin
  rw [if_neg (by omega)]
  refine go ⟨?_⟩
  exact fin
theorem goRGetFlag : GoFn Try.prog 18 := ⟨_, _, Try.func18, by kernel_rfl, rfl⟩
theorem rgetNums_p (b : List UInt8) : APure Try.prog 16 [bytes b] (.tup [ints (wgetNums b).1, bytes (wgetNums b).2.1, int (wgetNums b).2.2]) [] := by
  refine apure_of hT Try.func16 rfl ?_
  simp only [Try.ntmps16, List.length_cons, List.length_nil, Nat.reduceAdd, Nat.reduceSub, List.replicate, List.cons_append, List.nil_append]
  refine go ⟨?_⟩
  refine cal goRGetBytes (rgetBytes_p b) ⟨?_⟩
  have hv := wgetBytes_len b
  unfold wgetNums
  generalize wgetBytes b = x at *
  obtain ⟨v, r, e⟩ := x
  simp only at hv ⊢
  refine go ⟨?_⟩
  refine aw_if rfl (fun h => ?_) (fun h => ?_)
  · rw [if_pos h]
    refine go ⟨?_⟩
    exact fin
  rw [if_neg h]
  have htm : (v.length : Int).tmod 4 = (v.length % 4 : Nat) := by rw [Int.tmod_eq_emod_of_nonneg (by omega)]; omega
  refine go ⟨?_⟩
  refine aw_if rfl (fun h => ?_) (fun h => ?_)
  · rw [if_pos (by rw [htm] at h; omega)]
    refine go ⟨?_⟩
    exact fin
  have h4 : v.length % 4 = 0 := by rw [htm] at h; omega
  rw [if_neg (by omega)]
  refine go ⟨?_⟩
  refine aw_tell (Tells.nilRow (t := 8) 3 1 rfl rfl) ?_
  have hn : ∀ i, (nums4 v i).length = i := fun i => by simp [nums4]
  have e0 : nums4 v 0 = [] := rfl
  refine lp (fun i : {i : Nat // i ≤ v.length / 4} => [(5, bytes (v.drop (i.1 * 4))), (8, .row 0 1 0 i.1 none), (15, .junk)]) (fun i => [oI64 (nums4 v i.1)]) (fun i => v.length / 4 - i.1) ⟨0, by omega⟩ ?_ (h0 := by
    simp only [lst, junkL, setsL, setn]
    refine Tells.le ?_ ?_
    · exact les
    · exact .cons (.of (Nat.le_refl _) (fun h => h) fun k hk => (Nat.not_lt_zero _ hk).elim) .nil)
  rintro ⟨i, hi⟩
  refine go ⟨?_⟩
  have hld : (v.drop (i * 4)).length = v.length - i * 4 := by simp
  refine aw_if rfl (fun h => ?_) (fun h => ?_)
  · have h8 : i * 4 + 4 ≤ v.length := by omega
    refine go ⟨?_⟩
    refine cal goRGetNum (rgetNum_p (v.drop (i * 4)) 4) ⟨?_⟩
    have e1 : wgetNum (v.drop (i * 4)) 4 = (beNum 0 ((v.drop (i * 4)).take 4), v.drop ((i + 1) * 4), 0) := by
      unfold wgetNum
      rw [show wcount 4 = 4 from rfl, if_neg (by omega), List.drop_drop, show i * 4 + 4 = (i + 1) * 4 by omega]
    rw [e1]
    refine go ⟨?_⟩
    have hs : nums4 v (i + 1) = nums4 v i ++ [beNum 0 ((v.drop (i * 4)).take 4)] := by simp [nums4, List.range_succ]
    refine app (fI64 (nums4 v (i + 1))) hT rfl rfl rfl rfl (fun k hk => by
      rw [hs]
      exact fE_snoc (e := eInt) (hn i).symm rfl hk) ?_
    refine go ⟨?_⟩
    refine je ⟨⟨i + 1, by omega⟩, by simp only; omega, ?_⟩
    have e2 := hn (i + 1)
    exact tel
  · obtain rfl : i = v.length / 4 := by omega
    have e2 := hn (v.length / 4)
    refine go ⟨?_⟩
    refine rett rfl trivial rfl ?_
    refine (Tells.thaw (t := 0) rfl rfl (Nat.le_of_eq (by simp [hn]))).trans ((Tells.sel [] rfl rfl).trans (Tells.le ?_ .nil))
    exact les
theorem goRGetNums : GoFn Try.prog 16 := ⟨_, _, Try.func16, by kernel_rfl, rfl⟩
end Go.Proofs.Ythdckgcalooipaa
