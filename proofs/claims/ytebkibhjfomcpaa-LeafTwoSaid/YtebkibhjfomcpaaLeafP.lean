/- Layer 7: plain laws. -/
import Derived.Test.YtebkibhjfomcpaaLeaf3
namespace Go.Proofs.Ytebkibhjfomcpaa
open Go.RowKit
set_option linter.unusedVariables false
set_option linter.unusedSimpArgs false
set_option maxRecDepth 100000
theorem nby1 (n : Int) : nby n 1 = [u8of n] := by
  have h1 : wcount 1 = 1 := rfl
  simp only [nby, nbytes, h1, List.range_succ, List.range_zero, List.nil_append, List.map_append, List.map_cons, List.map_nil, List.cons_append]
  simp only [Nat.sub_zero, Nat.reduceMul, Nat.reduceSub, Int.reducePow]
  rw [Int.fdiv_eq_ediv_of_nonneg n (show (0 : Int) ≤ 1 by decide), Int.ediv_one]
theorem wgetNum1 (n : Int) (t : List UInt8) (h0 : 0 ≤ n) (h1 : n < 256) : wgetNum (nby n 1 ++ t) 1 = (n, t, 0) := by
  unfold wgetNum
  rw [nby1, show wcount 1 = 1 from rfl, if_neg (by simp)]
  have := u8of_lt h0 h1
  simp [beNum, this]
theorem wgetNum1_cases (b : List UInt8) : (b = [] ∧ wgetNum b 1 = (0, [], 1)) ∨ ∃ x r, b = x :: r ∧ wgetNum b 1 = ((x.toNat : Int), r, 0) := by
  match b with
  | [] => exact .inl ⟨rfl, rfl⟩
  | x :: r => exact .inr ⟨x, r, rfl, by simp [wgetNum, show wcount 1 = 1 from rfl, beNum]⟩
theorem nby1_eq (x : UInt8) : nby (x.toNat : Int) 1 = [x] := by
  have := x.toNat_lt
  rw [nby1, u8_eq (x := x) (by omega)]
theorem lcheck_ok {l : Leaf} (h : lcheck l = 0) : l.enc.length ≤ 200 ∧ l.cred.length ≤ 200 ∧ l.parent.length ≤ 200 ∧ 1 ≤ l.source ∧ l.source ≤ 3 ∧ (l.source ≠ 3 → l.parent = []) := by
  unfold lcheck at h
  split at h
  · simp at h
  · split at h
    · simp at h
    · split at h
      · simp at h
      · split at h
        · simp at h
        · rename_i h1 h2 h3 h4
          refine ⟨by omega, by omega, by omega, by omega, by omega, fun h => List.length_eq_zero_iff.1 ?_⟩
          by_cases h5 : l.parent.length > 0
          · exact (h4 ⟨h, h5⟩).elim
          · omega
/-- A leaf's octets, in parts. -/
theorem lput_eq {l : Leaf} (h : lcheck l = 0) (b : List UInt8) : lput b l = b ++ (wputBytes [] l.enc ++ (wputBytes [] l.cred ++ (nby l.source 1 ++ if l.source = 3 then wputBytes [] l.parent else []))) := by
  unfold lput
  rw [if_neg (by simpa using h)]
  have e : ∀ x y : List UInt8, wputBytes x y = x ++ wputBytes [] y := wputBytes_app
  split
  · rw [e (wputBytes (wputBytes b l.enc) l.cred ++ nby l.source 1) l.parent, e (wputBytes b l.enc) l.cred, e b l.enc]; simp
  · rw [e (wputBytes b l.enc) l.cred, e b l.enc]; simp
theorem lget5_ok {l : Leaf} {r v r' : List UInt8} (h : wgetBytes r = (v, r', 0)) : lget5 l r = lget4 { l with enc := v } r' := by
  unfold lget5; rw [h]; exact if_neg (by simp)
theorem lget5_no {l : Leaf} {r v r' : List UInt8} {e : Int} (h : wgetBytes r = (v, r', e)) (he : e ≠ 0) : lget5 l r = (noLeaf, [], e) := by
  unfold lget5; rw [h]; exact if_pos he
theorem lget4_ok {l : Leaf} {r v r' : List UInt8} (h : wgetBytes r = (v, r', 0)) : lget4 l r = lget3 { l with cred := v } r' := by
  unfold lget4; rw [h]; exact if_neg (by simp)
theorem lget4_no {l : Leaf} {r v r' : List UInt8} {e : Int} (h : wgetBytes r = (v, r', e)) (he : e ≠ 0) : lget4 l r = (noLeaf, [], e) := by
  unfold lget4; rw [h]; exact if_pos he
theorem lget3_ok {l : Leaf} {r r' : List UInt8} {n : Int} (h : wgetNum r 1 = (n, r', 0)) (hn : 1 ≤ n ∧ n ≤ 3) : lget3 l r = lget2 { l with source := n } r' := by
  unfold lget3; rw [h]; exact (if_neg (by simp)).trans (if_neg (by simpa using hn))
theorem lget3_no {l : Leaf} {r r' : List UInt8} {n e : Int} (h : wgetNum r 1 = (n, r', e)) (he : e ≠ 0) : lget3 l r = (noLeaf, [], e) := by
  unfold lget3; rw [h]; exact if_pos he
theorem lget3_bad {l : Leaf} {r r' : List UInt8} {n : Int} (h : wgetNum r 1 = (n, r', 0)) (hn : ¬ (1 ≤ n ∧ n ≤ 3)) : lget3 l r = (noLeaf, [], 7) := by
  unfold lget3; rw [h]; exact (if_neg (by simp)).trans (if_pos hn)
theorem lget2_plain {l : Leaf} {r : List UInt8} (hs : l.source ≠ 3) : lget2 l r = lget1 l r := by
  unfold lget2; exact if_pos hs
theorem lget2_ok {l : Leaf} {r v r' : List UInt8} (hs : l.source = 3) (h : wgetBytes r = (v, r', 0)) : lget2 l r = lget1 { l with parent := v } r' := by
  unfold lget2; rw [h]; exact (if_neg (by simpa using hs)).trans (if_neg (by simp))
theorem lget2_no {l : Leaf} {r v r' : List UInt8} {e : Int} (hs : l.source = 3) (h : wgetBytes r = (v, r', e)) (he : e ≠ 0) : lget2 l r = (noLeaf, [], e) := by
  unfold lget2; rw [h]; exact (if_neg (by simpa using hs)).trans (if_pos he)
theorem lget1_ok {l : Leaf} {r : List UInt8} (h : lcheck l = 0) : lget1 l r = (l, r, 0) := by
  unfold lget1; exact if_neg (by simpa using h)
theorem lget1_no {l : Leaf} {r : List UInt8} (h : lcheck l ≠ 0) : lget1 l r = (noLeaf, [], lcheck l) := by
  unfold lget1; exact if_pos h
theorem lget_put {l : Leaf} (h : lcheck l = 0) (t : List UInt8) : lget (lput [] l ++ t) = (l, t, 0) := by
  obtain ⟨h1, h2, h3, h4, h5, h6⟩ := lcheck_ok h
  rw [lput_eq h]
  simp only [List.nil_append, List.append_assoc]
  unfold lget
  rw [lget5_ok (wgetBytes_put _ _ (by omega)), lget4_ok (wgetBytes_put _ _ (by omega)), lget3_ok (wgetNum1 _ _ (by omega) (by omega)) ⟨h4, h5⟩]
  by_cases hs : l.source = 3
  · rw [if_pos hs]
    refine (lget2_ok (l := ⟨l.enc, l.cred, l.source, []⟩) hs (wgetBytes_put _ _ (by omega))).trans ?_
    exact lget1_ok h
  · rw [if_neg hs, List.nil_append]
    refine (lget2_plain (l := ⟨l.enc, l.cred, l.source, []⟩) hs).trans ?_
    rw [← h6 hs]
    exact lget1_ok h
theorem take_app_lt {a b : List UInt8} {i : Nat} (h : i < a.length) : (a ++ b).take i = a.take i := by rw [List.take_append_of_le_length (by omega)]
theorem take_app_ge {a b : List UInt8} {i : Nat} (h : a.length ≤ i) : (a ++ b).take i = a ++ b.take (i - a.length) := by rw [List.take_append, List.take_of_length_le h]
theorem lget_cut {l : Leaf} (h : lcheck l = 0) {i : Nat} (hi : i < (lput [] l).length) : lget ((lput [] l).take i) = (noLeaf, [], 1) := by
  obtain ⟨h1, h2, h3, h4, h5, h6⟩ := lcheck_ok h
  rw [lput_eq h] at hi ⊢
  simp only [List.nil_append, List.length_append] at hi ⊢
  have hn : (nby l.source 1).length = 1 := by rw [nby_len]; rfl
  unfold lget
  by_cases g1 : i < (wputBytes [] l.enc).length
  · rw [take_app_lt g1]; exact lget5_no (wget_cut _ (by omega) _ g1) (by decide)
  rw [take_app_ge (by omega), lget5_ok (wgetBytes_put _ _ (by omega))]
  by_cases g2 : i - (wputBytes [] l.enc).length < (wputBytes [] l.cred).length
  · rw [take_app_lt g2]; exact lget4_no (wget_cut _ (by omega) _ g2) (by decide)
  rw [take_app_ge (by omega), lget4_ok (wgetBytes_put _ _ (by omega))]
  by_cases g3 : i - (wputBytes [] l.enc).length - (wputBytes [] l.cred).length < 1
  · rw [take_app_lt (by omega), show i - (wputBytes [] l.enc).length - (wputBytes [] l.cred).length = 0 by omega, List.take_zero]
    exact lget3_no (show wgetNum [] 1 = (0, [], 1) from rfl) (by decide)
  rw [take_app_ge (by omega), lget3_ok (wgetNum1 _ _ (by omega) (by omega)) ⟨h4, h5⟩]
  by_cases hs : l.source = 3
  · rw [if_pos hs] at hi ⊢
    exact lget2_no (l := ⟨l.enc, l.cred, l.source, []⟩) hs (wget_cut _ (by omega) _ (by omega)) (by decide)
  · rw [if_neg hs, List.length_nil] at hi
    omega
theorem pair3 {α β γ : Type} (x : α × β × γ) : x = (x.1, x.2.1, x.2.2) := rfl
/-- What is got: nothing but the error, or what was put. -/
theorem lget_cases (b : List UInt8) : ((lget b).2.2 ≠ 0 ∧ (lget b).1 = noLeaf ∧ (lget b).2.1 = []) ∨ ((lget b).2.2 = 0 ∧ lcheck (lget b).1 = 0 ∧ lput [] (lget b).1 ++ (lget b).2.1 = b) := by
  have no : ∀ {x : Leaf × List UInt8 × Int} {e : Int}, x = (noLeaf, [], e) → e ≠ 0 → (x.2.2 ≠ 0 ∧ x.1 = noLeaf ∧ x.2.1 = []) := fun h he => by subst h; exact ⟨he, rfl, rfl⟩
  unfold lget
  have q1 := wputBytes_get b
  have p1 : wgetBytes b = _ := pair3 _
  generalize (wgetBytes b).1 = v1 at *
  generalize (wgetBytes b).2.1 = r1 at *
  generalize (wgetBytes b).2.2 = e1 at *
  by_cases g1 : e1 = 0
  · subst g1
    rw [lget5_ok p1]
    have q1 := q1 rfl
    have q2 := wputBytes_get r1
    have p2 : wgetBytes r1 = _ := pair3 _
    generalize (wgetBytes r1).1 = v2 at *
    generalize (wgetBytes r1).2.1 = r2 at *
    generalize (wgetBytes r1).2.2 = e2 at *
    by_cases g2 : e2 = 0
    · subst g2
      rw [lget4_ok p2]
      have q2 := q2 rfl
      rcases wgetNum1_cases r2 with ⟨hr, p3⟩ | ⟨x, r3, hr, p3⟩
      · exact .inl (no (lget3_no p3 (by decide)) (by decide))
      · by_cases hn : 1 ≤ (x.toNat : Int) ∧ (x.toNat : Int) ≤ 3
        · rw [lget3_ok p3 hn]
          have hx := nby1_eq x
          by_cases hs : (x.toNat : Int) = 3
          · have q4 := wputBytes_get r3
            have p4 : wgetBytes r3 = _ := pair3 _
            generalize (wgetBytes r3).1 = v4 at *
            generalize (wgetBytes r3).2.1 = r4 at *
            generalize (wgetBytes r3).2.2 = e4 at *
            by_cases g4 : e4 = 0
            · subst g4
              have q4 := q4 rfl
              rw [lget2_ok (l := ⟨v1, v2, x.toNat, []⟩) hs p4]
              by_cases hc : lcheck ⟨v1, v2, x.toNat, v4⟩ = 0
              · refine .inr ?_
                rw [lget1_ok hc]
                refine ⟨rfl, hc, ?_⟩
                rw [lput_eq hc]
                simp only [if_pos hs, hx, List.nil_append, List.append_assoc]
                rw [q4, ← q1, ← q2, hr]
                rfl
              · exact .inl (no (lget1_no hc) hc)
            · exact .inl (no (lget2_no (l := ⟨v1, v2, x.toNat, []⟩) hs p4 g4) g4)
          · rw [lget2_plain (l := ⟨v1, v2, x.toNat, []⟩) hs]
            by_cases hc : lcheck ⟨v1, v2, x.toNat, []⟩ = 0
            · refine .inr ?_
              rw [lget1_ok hc]
              refine ⟨rfl, hc, ?_⟩
              rw [lput_eq hc]
              simp only [if_neg hs, hx, List.nil_append, List.append_assoc]
              rw [← q1, ← q2, hr]
              rfl
            · exact .inl (no (lget1_no hc) hc)
        · exact .inl (no (lget3_bad p3 hn) (by decide))
    · exact .inl (no (lget4_no p2 g2) g2)
  · exact .inl (no (lget5_no p1 g1) g1)
/-- Neither's octets begin with the other's. -/
theorem lput_apart {l m : Leaf} (hl : lcheck l = 0) (hm : lcheck m = 0) (h : (lput [] l).take (min (lput [] l).length (lput [] m).length) = (lput [] m).take (min (lput [] l).length (lput [] m).length)) : l = m := by
  rcases Nat.le_total (lput [] l).length (lput [] m).length with hle | hle
  · rw [Nat.min_eq_left hle, List.take_length] at h
    have e : lput [] m = lput [] l ++ (lput [] m).drop (lput [] l).length := by
      have := List.take_append_drop (lput [] l).length (lput [] m)
      rw [← h] at this; exact this.symm
    have h1 := lget_put hm []
    rw [List.append_nil, e, lget_put hl] at h1
    exact (Prod.mk.inj h1).1
  · rw [Nat.min_eq_right hle, List.take_length] at h
    have e : lput [] l = lput [] m ++ (lput [] l).drop (lput [] m).length := by
      have := List.take_append_drop (lput [] m).length (lput [] l)
      rw [h] at this; exact this.symm
    have h1 := lget_put hl []
    rw [List.append_nil, e, lget_put hm] at h1
    exact (Prod.mk.inj h1).1.symm
end Go.Proofs.Ytebkibhjfomcpaa
