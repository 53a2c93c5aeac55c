/- Layer 1: the law of order, walked. -/
import Derived.Test.YthcoccoanpmhgaaVarPure3
import Derived.Test.YthcoccoanpmhgaaVarLaw
namespace Go.Proofs.Ythcoccoanpmhgaa
open Go.RowKit
set_option linter.unusedVariables false
set_option linter.unusedSimpArgs false
theorem Sl.head {w : World} {O : Nat → Prop} {A : Option Addr} {n c : Nat} {x : UInt8} {r : List UInt8} (h : Sl kU8 w O (.slice A n c) (x :: r)) : ∃ g o, A = some ⟨g, o, none⟩ ∧ w.cell? ⟨g, o, none⟩ = some (.int .u8 x.toNat) := by
  obtain ⟨g, o, hA, hc⟩ := h.byte (k := 0) (by simp)
  exact ⟨g, o, hA, by simpa using hc⟩
theorem Sl.head' {w : World} {O : Nat → Prop} {g o n c : Nat} {x : UInt8} {r : List UInt8} (h : Sl kU8 w O (.slice (some ⟨g, o, none⟩) n c) (x :: r)) : w.cell? ⟨g, o, none⟩ = some (.int .u8 x.toNat) := by
  have := h.byte' (k := 0) (by simp)
  simpa using this
set_option maxHeartbeats 2000000 in
set_option maxRecDepth 100000 in
theorem law_order_a (a b : Int) (w : World) (hab : a < b) :
    Calls Try.prog 6 #[.int .i64 a, .int .i64 b] w fun e w' => e = .returned (.bool true) ∧ Below w.heap.size w w' := by
  by_cases hn : vsize a = 0
  · have hl : (vput a).length = 0 := by rw [(vput_none hn).1]; rfl
    clear hn
    go_enter Try.func6, Try.ntmps6
    go_wp2_with (first
      | (go_at_call 9; refine (awake_calls _).mono ?_; rintro e w1 ⟨rfl, hb1⟩)
      | (skip; go_at_call_of 14 (Value.int .i64 a); refine (put_calls [] a (fun _ => False) _ _ (Sl.nil_ _ _ _) (by simp)).mono ?_; rintro e w2 ⟨v2, rfl, ho2⟩; obtain ⟨A2, c2, rfl, _, _⟩ := ho2.val)
      | (go_at_call_of 14 (Value.int .i64 b); refine (put_calls [] b (fun _ => False) _ _ (Sl.nil_ _ _ _) (by simp)).mono ?_; rintro e w3 ⟨v3, rfl, ho3⟩; obtain ⟨A3, c3, rfl, _, _⟩ := ho3.val))
    go_ret
    exact ⟨rfl, Bel.trans _ _ _ (Bel.trans _ _ _ hb1 ho2.2) ho3.2⟩
  have hl : ((vput a).length == 0) = false := by have := vput_len a; rw [beq_eq_false_iff_ne]; omega
  have hl' : (((vput a).length : Int) == 0) = false := by have := vput_len a; rw [beq_eq_false_iff_ne]; omega
  by_cases hm : vsize b = 0
  · have hl2 : (vput b).length = 0 := by rw [(vput_none hm).1]; rfl
    have HN := Lib.hid hn
    clear hm hn
    go_enter Try.func6, Try.ntmps6
    go_wp2_with (first
      | (go_at_call 9; refine (awake_calls _).mono ?_; rintro e w1 ⟨rfl, hb1⟩)
      | (skip; go_at_call_of 14 (Value.int .i64 a); refine (put_calls [] a (fun _ => False) _ _ (Sl.nil_ _ _ _) (by simp)).mono ?_; rintro e w2 ⟨v2, rfl, ho2⟩; obtain ⟨A2, c2, rfl, _, _⟩ := ho2.val)
      | (go_at_call_of 14 (Value.int .i64 b); refine (put_calls [] b (fun _ => False) _ _ (Sl.nil_ _ _ _) (by simp)).mono ?_; rintro e w3 ⟨v3, rfl, ho3⟩; obtain ⟨A3, c3, rfl, _, _⟩ := ho3.val))
    go_ret
    exact ⟨rfl, Bel.trans _ _ _ (Bel.trans _ _ _ hb1 ho2.2) ho3.2⟩
  have hl2 : ((vput b).length == 0) = false := by have := vput_len b; rw [beq_eq_false_iff_ne]; omega
  have hl2' : (((vput b).length : Int) == 0) = false := by have := vput_len b; rw [beq_eq_false_iff_ne]; omega
  have h0 : 0 ≤ a := by rcases vput_cases _ hn with ⟨h, _⟩ | ⟨h, _⟩ | ⟨h, _⟩ <;> omega
  have hmo := vsize_mono hm h0 (by omega)
  by_cases hlt : vsize a < vsize b
  · obtain ⟨x, r, y, q, hx, hy, hxy⟩ := vput_head hn hlt
    have hle : (vput a).length < (vput b).length := by have := vput_len a; have := vput_len b; omega
    have hl3 : ¬ (vput b).length < (vput a).length := by omega
    have hl4 : 0 < (vput a).length := by rw [hx]; simp
    have hl5 : 0 < (vput b).length := by omega
    have HX := Lib.hid hx
    have HY := Lib.hid hy
    have HXY := Lib.hid hxy
    clear hx hy hxy hn hm h0 hmo hlt
    go_enter Try.func6, Try.ntmps6
    go_wp2_with (first
      | (go_at_call 9; refine (awake_calls _).mono ?_; rintro e w1 ⟨rfl, hb1⟩)
      | (skip; go_at_call_of 14 (Value.int .i64 a); refine (put_calls [] a (fun _ => False) _ _ (Sl.nil_ _ _ _) (by simp)).mono ?_; rintro e w2 ⟨v2, rfl, ho2⟩; obtain ⟨A2, c2, rfl, _, _⟩ := ho2.val)
      | (go_at_call_of 14 (Value.int .i64 b); refine (put_calls [] b (fun _ => False) _ _ (Sl.nil_ _ _ _) (by simp)).mono ?_; rintro e w3 ⟨v3, rfl, ho3⟩; obtain ⟨A3, c3, rfl, _, _⟩ := ho3.val))
    have hb : Below w.heap.size w w3 := Bel.trans _ _ _ (Bel.trans _ _ _ hb1 ho2.2) ho3.2
    have hs2 := (ho2.sl (fun _ h => h.elim)).keep (by decide) (keeps_of ho3.2 _)
    have hs3 := ho3.sl (fun _ h => h.elim)
    simp only [List.nil_append] at hs2 hs3
    have HB := Lib.hid hb
    clear hb ho2 ho3 hb1
    have hx2 := hs2
    have hx3 := hs3
    rw [HX.out] at hx2
    rw [HY.out] at hx3
    obtain ⟨g2, o2, rfl, _⟩ := hx2.head
    obtain ⟨g3, o3, rfl, _⟩ := hx3.head
    have HS2 := Lib.hid hx2
    have HS3 := Lib.hid hx3
    clear hx2 hx3 hs2 hs3
    refine wp_region_A [] (by kernel_rfl) (by kernel_rfl) ?_
    intro ops F w0 pl hops hpl hw0 hF
    have hw0' := hw0.out
    subst hw0'
    repeat (first | (refine wpL_pure (by first | rfl | (rw [hops.out]; rfl)) (by rw [hpl.out]; rfl) ?_ (fun wq hE hK => ?_) ?_; rotate_left; (clear hE hK; go_simp; rfl); (simp only [Act.put, List.setIfInBounds_toArray, List.set_cons_succ, List.set_cons_zero, Nat.reduceAdd, Nat.zero_add])) | (refine wpL_skip (by first | rfl | (rw [hops.out]; rfl)) ?_; simp only [Act.put, List.setIfInBounds_toArray, List.set_cons_succ, List.set_cons_zero, Nat.reduceAdd, Nat.zero_add]))
    refine wpL_pure (by first | rfl | (rw [hops.out]; rfl)) (by rw [hpl.out]; rfl) ?_ (fun wq hE hK => ?_) ?_
    rotate_left
    · have hc := (HS2.out.keep (by decide) (keeps_of hE _)).head'
      clear hE hK
      go_simp
      rfl
    simp only [Act.put, List.setIfInBounds_toArray, List.set_cons_succ, List.set_cons_zero, Nat.reduceAdd, Nat.zero_add]
    repeat (first | (refine wpL_pure (by first | rfl | (rw [hops.out]; rfl)) (by rw [hpl.out]; rfl) ?_ (fun wq hE hK => ?_) ?_; rotate_left; (clear hE hK; go_simp; rfl); (simp only [Act.put, List.setIfInBounds_toArray, List.set_cons_succ, List.set_cons_zero, Nat.reduceAdd, Nat.zero_add])) | (refine wpL_skip (by first | rfl | (rw [hops.out]; rfl)) ?_; simp only [Act.put, List.setIfInBounds_toArray, List.set_cons_succ, List.set_cons_zero, Nat.reduceAdd, Nat.zero_add]))
    refine wpL_pure (by first | rfl | (rw [hops.out]; rfl)) (by rw [hpl.out]; rfl) ?_ (fun wq hE hK => ?_) ?_
    rotate_left
    · have hc := (HS3.out.keep (by decide) (keeps_of hE _)).head'
      clear hE hK
      go_simp
      rfl
    simp only [Act.put, List.setIfInBounds_toArray, List.set_cons_succ, List.set_cons_zero, Nat.reduceAdd, Nat.zero_add]
    refine wpL_pure (by first | rfl | (rw [hops.out]; rfl)) (by rw [hpl.out]; rfl) ?_ (fun wq hE hK => ?_) ?_
    rotate_left
    · have hxy : ¬ y.toNat ≤ x.toNat := by have := HXY.out; omega
      clear hE hK
      go_simp
      rfl
    simp only [Act.put, List.setIfInBounds_toArray, List.set_cons_succ, List.set_cons_zero, Nat.reduceAdd, Nat.zero_add]
    repeat (first | (refine wpL_pure (by first | rfl | (rw [hops.out]; rfl)) (by rw [hpl.out]; rfl) ?_ (fun wq hE hK => ?_) ?_; rotate_left; (clear hE hK; go_simp; rfl); (simp only [Act.put, List.setIfInBounds_toArray, List.set_cons_succ, List.set_cons_zero, Nat.reduceAdd, Nat.zero_add])) | (refine wpL_skip (by first | rfl | (rw [hops.out]; rfl)) ?_; simp only [Act.put, List.setIfInBounds_toArray, List.set_cons_succ, List.set_cons_zero, Nat.reduceAdd, Nat.zero_add]))
    refine wpL_nil fun w' hE hK => hF.out _ _ ?_
    go_wp2
    go_ret
    exact ⟨rfl, HB.out.trans (hE.mono HB.out.size)⟩
  · have heq : vsize a = vsize b := by omega
    have hle : (vput a).length = (vput b).length := by have := vput_len a; have := vput_len b; omega
    have HL := Lib.hid (vput_less hn heq)
    have hl3 : ¬ (vput a).length < (vput b).length := by omega
    have hl4 : ¬ (vput b).length < (vput a).length := by omega
    have HLE := Lib.hid hle
    clear hn hm h0 hmo hlt heq hle
    go_enter Try.func6, Try.ntmps6
    go_wp2_with (first
      | (go_at_call 9; refine (awake_calls _).mono ?_; rintro e w1 ⟨rfl, hb1⟩)
      | (skip; go_at_call_of 14 (Value.int .i64 a); refine (put_calls [] a (fun _ => False) _ _ (Sl.nil_ _ _ _) (by simp)).mono ?_; rintro e w2 ⟨v2, rfl, ho2⟩; obtain ⟨A2, c2, rfl, _, _⟩ := ho2.val)
      | (go_at_call_of 14 (Value.int .i64 b); refine (put_calls [] b (fun _ => False) _ _ (Sl.nil_ _ _ _) (by simp)).mono ?_; rintro e w3 ⟨v3, rfl, ho3⟩; obtain ⟨A3, c3, rfl, _, _⟩ := ho3.val))
    have hb : Below w.heap.size w w3 := Bel.trans _ _ _ (Bel.trans _ _ _ hb1 ho2.2) ho3.2
    have hs2 := (ho2.sl (fun _ h => h.elim)).keep (by decide) (keeps_of ho3.2 _)
    have hs3 := ho3.sl (fun _ h => h.elim)
    simp only [List.nil_append] at hs2 hs3
    have HB := Lib.hid hb
    clear hb ho2 ho3 hb1
    have HS2 := Lib.hid hs2
    have HS3 := Lib.hid hs3
    clear hs2 hs3
    refine wp_region_A [] (by kernel_rfl) (by kernel_rfl) ?_
    intro ops F w0 pl hops hpl hw0 hF
    have hw0' := hw0.out
    subst hw0'
    repeat (first | (refine wpL_pure (by first | rfl | (rw [hops.out]; rfl)) (by rw [hpl.out]; rfl) ?_ (fun wq hE hK => ?_) ?_; rotate_left; (clear hE hK; go_simp; rfl); (simp only [Act.put, List.setIfInBounds_toArray, List.set_cons_succ, List.set_cons_zero, Nat.reduceAdd, Nat.zero_add])) | (refine wpL_skip (by first | rfl | (rw [hops.out]; rfl)) ?_; simp only [Act.put, List.setIfInBounds_toArray, List.set_cons_succ, List.set_cons_zero, Nat.reduceAdd, Nat.zero_add]))
    refine wpL_nil fun w' hE hK => hF.out _ _ ?_
    have hcv2 := conv_str (HS2.out.keep (by decide) (keeps_of hE _))
    have hcv3 := conv_str (HS3.out.keep (by decide) (keeps_of hE _))
    have hl6 := HL.out
    clear hK
    go_wp2
    go_ret
    exact ⟨by simp <;> omega, HB.out.trans (hE.mono HB.out.size)⟩
set_option maxHeartbeats 2000000 in
set_option maxRecDepth 100000 in
theorem law_order_b (a b : Int) (w : World) (hab : b < a) :
    Calls Try.prog 6 #[.int .i64 a, .int .i64 b] w fun e w' => e = .returned (.bool true) ∧ Below w.heap.size w w' := by
  by_cases hn : vsize b = 0
  · have hl : (vput b).length = 0 := by rw [(vput_none hn).1]; rfl
    clear hn
    go_enter Try.func6, Try.ntmps6
    go_wp2_with (first
      | (go_at_call 9; refine (awake_calls _).mono ?_; rintro e w1 ⟨rfl, hb1⟩)
      | (skip; go_at_call_of 14 (Value.int .i64 b); refine (put_calls [] b (fun _ => False) _ _ (Sl.nil_ _ _ _) (by simp)).mono ?_; rintro e w2 ⟨v2, rfl, ho2⟩; obtain ⟨A2, c2, rfl, _, _⟩ := ho2.val)
      | (go_at_call_of 14 (Value.int .i64 a); refine (put_calls [] a (fun _ => False) _ _ (Sl.nil_ _ _ _) (by simp)).mono ?_; rintro e w3 ⟨v3, rfl, ho3⟩; obtain ⟨A3, c3, rfl, _, _⟩ := ho3.val))
    go_ret
    exact ⟨rfl, Bel.trans _ _ _ (Bel.trans _ _ _ hb1 ho2.2) ho3.2⟩
  have hl : ((vput b).length == 0) = false := by have := vput_len b; rw [beq_eq_false_iff_ne]; omega
  have hl' : (((vput b).length : Int) == 0) = false := by have := vput_len b; rw [beq_eq_false_iff_ne]; omega
  by_cases hm : vsize a = 0
  · have hl2 : (vput a).length = 0 := by rw [(vput_none hm).1]; rfl
    have HN := Lib.hid hn
    clear hm hn
    go_enter Try.func6, Try.ntmps6
    go_wp2_with (first
      | (go_at_call 9; refine (awake_calls _).mono ?_; rintro e w1 ⟨rfl, hb1⟩)
      | (skip; go_at_call_of 14 (Value.int .i64 b); refine (put_calls [] b (fun _ => False) _ _ (Sl.nil_ _ _ _) (by simp)).mono ?_; rintro e w2 ⟨v2, rfl, ho2⟩; obtain ⟨A2, c2, rfl, _, _⟩ := ho2.val)
      | (go_at_call_of 14 (Value.int .i64 a); refine (put_calls [] a (fun _ => False) _ _ (Sl.nil_ _ _ _) (by simp)).mono ?_; rintro e w3 ⟨v3, rfl, ho3⟩; obtain ⟨A3, c3, rfl, _, _⟩ := ho3.val))
    go_ret
    exact ⟨rfl, Bel.trans _ _ _ (Bel.trans _ _ _ hb1 ho2.2) ho3.2⟩
  have hl2 : ((vput a).length == 0) = false := by have := vput_len a; rw [beq_eq_false_iff_ne]; omega
  have hl2' : (((vput a).length : Int) == 0) = false := by have := vput_len a; rw [beq_eq_false_iff_ne]; omega
  have h0 : 0 ≤ b := by rcases vput_cases _ hn with ⟨h, _⟩ | ⟨h, _⟩ | ⟨h, _⟩ <;> omega
  have hmo := vsize_mono hm h0 (by omega)
  by_cases hlt : vsize b < vsize a
  · obtain ⟨x, r, y, q, hx, hy, hxy⟩ := vput_head hn hlt
    have hle : (vput b).length < (vput a).length := by have := vput_len b; have := vput_len a; omega
    have hl3 : ¬ (vput a).length < (vput b).length := by omega
    have hl4 : 0 < (vput b).length := by rw [hx]; simp
    have hl5 : 0 < (vput a).length := by omega
    have HX := Lib.hid hx
    have HY := Lib.hid hy
    have HXY := Lib.hid hxy
    clear hx hy hxy hn hm h0 hmo hlt
    go_enter Try.func6, Try.ntmps6
    go_wp2_with (first
      | (go_at_call 9; refine (awake_calls _).mono ?_; rintro e w1 ⟨rfl, hb1⟩)
      | (skip; go_at_call_of 14 (Value.int .i64 b); refine (put_calls [] b (fun _ => False) _ _ (Sl.nil_ _ _ _) (by simp)).mono ?_; rintro e w2 ⟨v2, rfl, ho2⟩; obtain ⟨A2, c2, rfl, _, _⟩ := ho2.val)
      | (go_at_call_of 14 (Value.int .i64 a); refine (put_calls [] a (fun _ => False) _ _ (Sl.nil_ _ _ _) (by simp)).mono ?_; rintro e w3 ⟨v3, rfl, ho3⟩; obtain ⟨A3, c3, rfl, _, _⟩ := ho3.val))
    have hb : Below w.heap.size w w3 := Bel.trans _ _ _ (Bel.trans _ _ _ hb1 ho2.2) ho3.2
    have hs2 := (ho2.sl (fun _ h => h.elim)).keep (by decide) (keeps_of ho3.2 _)
    have hs3 := ho3.sl (fun _ h => h.elim)
    simp only [List.nil_append] at hs2 hs3
    have HB := Lib.hid hb
    clear hb ho2 ho3 hb1
    have hx2 := hs2
    have hx3 := hs3
    rw [HX.out] at hx2
    rw [HY.out] at hx3
    obtain ⟨g2, o2, rfl, _⟩ := hx2.head
    obtain ⟨g3, o3, rfl, _⟩ := hx3.head
    have HS2 := Lib.hid hx2
    have HS3 := Lib.hid hx3
    clear hx2 hx3 hs2 hs3
    refine wp_region_A [] (by kernel_rfl) (by kernel_rfl) ?_
    intro ops F w0 pl hops hpl hw0 hF
    have hw0' := hw0.out
    subst hw0'
    repeat (first | (refine wpL_pure (by first | rfl | (rw [hops.out]; rfl)) (by rw [hpl.out]; rfl) ?_ (fun wq hE hK => ?_) ?_; rotate_left; (clear hE hK; go_simp; rfl); (simp only [Act.put, List.setIfInBounds_toArray, List.set_cons_succ, List.set_cons_zero, Nat.reduceAdd, Nat.zero_add])) | (refine wpL_skip (by first | rfl | (rw [hops.out]; rfl)) ?_; simp only [Act.put, List.setIfInBounds_toArray, List.set_cons_succ, List.set_cons_zero, Nat.reduceAdd, Nat.zero_add]))
    refine wpL_pure (by first | rfl | (rw [hops.out]; rfl)) (by rw [hpl.out]; rfl) ?_ (fun wq hE hK => ?_) ?_
    rotate_left
    · have hc := (HS2.out.keep (by decide) (keeps_of hE _)).head'
      clear hE hK
      go_simp
      rfl
    simp only [Act.put, List.setIfInBounds_toArray, List.set_cons_succ, List.set_cons_zero, Nat.reduceAdd, Nat.zero_add]
    repeat (first | (refine wpL_pure (by first | rfl | (rw [hops.out]; rfl)) (by rw [hpl.out]; rfl) ?_ (fun wq hE hK => ?_) ?_; rotate_left; (clear hE hK; go_simp; rfl); (simp only [Act.put, List.setIfInBounds_toArray, List.set_cons_succ, List.set_cons_zero, Nat.reduceAdd, Nat.zero_add])) | (refine wpL_skip (by first | rfl | (rw [hops.out]; rfl)) ?_; simp only [Act.put, List.setIfInBounds_toArray, List.set_cons_succ, List.set_cons_zero, Nat.reduceAdd, Nat.zero_add]))
    refine wpL_pure (by first | rfl | (rw [hops.out]; rfl)) (by rw [hpl.out]; rfl) ?_ (fun wq hE hK => ?_) ?_
    rotate_left
    · have hc := (HS3.out.keep (by decide) (keeps_of hE _)).head'
      clear hE hK
      go_simp
      rfl
    simp only [Act.put, List.setIfInBounds_toArray, List.set_cons_succ, List.set_cons_zero, Nat.reduceAdd, Nat.zero_add]
    refine wpL_pure (by first | rfl | (rw [hops.out]; rfl)) (by rw [hpl.out]; rfl) ?_ (fun wq hE hK => ?_) ?_
    rotate_left
    · have hxy : ¬ y.toNat ≤ x.toNat := by have := HXY.out; omega
      clear hE hK
      go_simp
      rfl
    simp only [Act.put, List.setIfInBounds_toArray, List.set_cons_succ, List.set_cons_zero, Nat.reduceAdd, Nat.zero_add]
    repeat (first | (refine wpL_pure (by first | rfl | (rw [hops.out]; rfl)) (by rw [hpl.out]; rfl) ?_ (fun wq hE hK => ?_) ?_; rotate_left; (clear hE hK; go_simp; rfl); (simp only [Act.put, List.setIfInBounds_toArray, List.set_cons_succ, List.set_cons_zero, Nat.reduceAdd, Nat.zero_add])) | (refine wpL_skip (by first | rfl | (rw [hops.out]; rfl)) ?_; simp only [Act.put, List.setIfInBounds_toArray, List.set_cons_succ, List.set_cons_zero, Nat.reduceAdd, Nat.zero_add]))
    refine wpL_nil fun w' hE hK => hF.out _ _ ?_
    go_wp2
    go_ret
    exact ⟨rfl, HB.out.trans (hE.mono HB.out.size)⟩
  · have heq : vsize b = vsize a := by omega
    have hle : (vput b).length = (vput a).length := by have := vput_len b; have := vput_len a; omega
    have HL := Lib.hid (vput_less hn heq)
    have hl3 : ¬ (vput b).length < (vput a).length := by omega
    have hl4 : ¬ (vput a).length < (vput b).length := by omega
    have HLE := Lib.hid hle
    clear hn hm h0 hmo hlt heq hle
    go_enter Try.func6, Try.ntmps6
    go_wp2_with (first
      | (go_at_call 9; refine (awake_calls _).mono ?_; rintro e w1 ⟨rfl, hb1⟩)
      | (skip; go_at_call_of 14 (Value.int .i64 b); refine (put_calls [] b (fun _ => False) _ _ (Sl.nil_ _ _ _) (by simp)).mono ?_; rintro e w2 ⟨v2, rfl, ho2⟩; obtain ⟨A2, c2, rfl, _, _⟩ := ho2.val)
      | (go_at_call_of 14 (Value.int .i64 a); refine (put_calls [] a (fun _ => False) _ _ (Sl.nil_ _ _ _) (by simp)).mono ?_; rintro e w3 ⟨v3, rfl, ho3⟩; obtain ⟨A3, c3, rfl, _, _⟩ := ho3.val))
    have hb : Below w.heap.size w w3 := Bel.trans _ _ _ (Bel.trans _ _ _ hb1 ho2.2) ho3.2
    have hs2 := (ho2.sl (fun _ h => h.elim)).keep (by decide) (keeps_of ho3.2 _)
    have hs3 := ho3.sl (fun _ h => h.elim)
    simp only [List.nil_append] at hs2 hs3
    have HB := Lib.hid hb
    clear hb ho2 ho3 hb1
    have HS2 := Lib.hid hs2
    have HS3 := Lib.hid hs3
    clear hs2 hs3
    refine wp_region_A [] (by kernel_rfl) (by kernel_rfl) ?_
    intro ops F w0 pl hops hpl hw0 hF
    have hw0' := hw0.out
    subst hw0'
    repeat (first | (refine wpL_pure (by first | rfl | (rw [hops.out]; rfl)) (by rw [hpl.out]; rfl) ?_ (fun wq hE hK => ?_) ?_; rotate_left; (clear hE hK; go_simp; rfl); (simp only [Act.put, List.setIfInBounds_toArray, List.set_cons_succ, List.set_cons_zero, Nat.reduceAdd, Nat.zero_add])) | (refine wpL_skip (by first | rfl | (rw [hops.out]; rfl)) ?_; simp only [Act.put, List.setIfInBounds_toArray, List.set_cons_succ, List.set_cons_zero, Nat.reduceAdd, Nat.zero_add]))
    refine wpL_nil fun w' hE hK => hF.out _ _ ?_
    have hcv2 := conv_str (HS2.out.keep (by decide) (keeps_of hE _))
    have hcv3 := conv_str (HS3.out.keep (by decide) (keeps_of hE _))
    have hl6 := HL.out
    clear hK
    go_wp2
    go_ret
    exact ⟨by simp <;> omega, HB.out.trans (hE.mono HB.out.size)⟩
set_option maxHeartbeats 2000000 in
set_option maxRecDepth 100000 in
theorem law_order_c (a : Int) (w : World) :
    Calls Try.prog 6 #[.int .i64 a, .int .i64 a] w fun e w' => e = .returned (.bool true) ∧ Below w.heap.size w w' := by
  have hmin : min a a = a := by omega
  have hmax : max a a = a := by omega
  by_cases hn : vsize a = 0
  · have hl : (vput a).length = 0 := by rw [(vput_none hn).1]; rfl
    clear hn
    go_enter Try.func6, Try.ntmps6
    go_wp2_with (first
      | (go_at_call 9; refine (awake_calls _).mono ?_; rintro e w1 ⟨rfl, hb1⟩)
      | (have _ := ho2; go_at_call 14; refine (put_calls [] a (fun _ => False) _ _ (Sl.nil_ _ _ _) (by simp)).mono ?_; rintro e w3 ⟨v3, rfl, ho3⟩; obtain ⟨A3, c3, rfl, _, _⟩ := ho3.val)
      | (go_at_call 14; refine (put_calls [] a (fun _ => False) _ _ (Sl.nil_ _ _ _) (by simp)).mono ?_; rintro e w2 ⟨v2, rfl, ho2⟩; obtain ⟨A2, c2, rfl, _, _⟩ := ho2.val))
    go_ret
    exact ⟨rfl, Bel.trans _ _ _ (Bel.trans _ _ _ hb1 ho2.2) ho3.2⟩
  have hl : ((vput a).length == 0) = false := by have := vput_len a; rw [beq_eq_false_iff_ne]; omega
  have hl' : (((vput a).length : Int) == 0) = false := by have := vput_len a; rw [beq_eq_false_iff_ne]; omega
  have HL := Lib.hid (vput_less hn rfl)
  have hl3 : ¬ (vput a).length < (vput a).length := by omega
  clear hn
  go_enter Try.func6, Try.ntmps6
  go_wp2_with (first
    | (go_at_call 9; refine (awake_calls _).mono ?_; rintro e w1 ⟨rfl, hb1⟩)
    | (have _ := ho2; go_at_call 14; refine (put_calls [] a (fun _ => False) _ _ (Sl.nil_ _ _ _) (by simp)).mono ?_; rintro e w3 ⟨v3, rfl, ho3⟩; obtain ⟨A3, c3, rfl, _, _⟩ := ho3.val)
    | (go_at_call 14; refine (put_calls [] a (fun _ => False) _ _ (Sl.nil_ _ _ _) (by simp)).mono ?_; rintro e w2 ⟨v2, rfl, ho2⟩; obtain ⟨A2, c2, rfl, _, _⟩ := ho2.val))
  have hb : Below w.heap.size w w3 := Bel.trans _ _ _ (Bel.trans _ _ _ hb1 ho2.2) ho3.2
  have hs2 := (ho2.sl (fun _ h => h.elim)).keep (by decide) (keeps_of ho3.2 _)
  have hs3 := ho3.sl (fun _ h => h.elim)
  simp only [List.nil_append] at hs2 hs3
  have HB := Lib.hid hb
  clear hb ho2 ho3 hb1
  have HS2 := Lib.hid hs2
  have HS3 := Lib.hid hs3
  clear hs2 hs3
  refine wp_region_A [] (by kernel_rfl) (by kernel_rfl) ?_
  intro ops F w0 pl hops hpl hw0 hF
  have hw0' := hw0.out
  subst hw0'
  repeat (first | (refine wpL_pure (by first | rfl | (rw [hops.out]; rfl)) (by rw [hpl.out]; rfl) ?_ (fun wq hE hK => ?_) ?_; rotate_left; (clear hE hK; go_simp; rfl); (simp only [Act.put, List.setIfInBounds_toArray, List.set_cons_succ, List.set_cons_zero, Nat.reduceAdd, Nat.zero_add])) | (refine wpL_skip (by first | rfl | (rw [hops.out]; rfl)) ?_; simp only [Act.put, List.setIfInBounds_toArray, List.set_cons_succ, List.set_cons_zero, Nat.reduceAdd, Nat.zero_add]))
  refine wpL_nil fun w' hE hK => hF.out _ _ ?_
  have hcv2 := conv_str (HS2.out.keep (by decide) (keeps_of hE _))
  have hcv3 := conv_str (HS3.out.keep (by decide) (keeps_of hE _))
  have hl6 := HL.out
  clear hK
  go_wp2
  go_ret
  exact ⟨by simp <;> omega, HB.out.trans (hE.mono HB.out.size)⟩
theorem law_order (a b : Int) (w : World) :
    Calls Try.prog 6 #[.int .i64 a, .int .i64 b] w fun e w' => e = .returned (.bool true) ∧ Below w.heap.size w w' := by
  rcases Int.lt_trichotomy a b with h | h | h
  · exact law_order_a a b w h
  · subst h; exact law_order_c a w
  · exact law_order_b a b w h
theorem run_order (w : World) {a b : Int} (ha : (Lit.int .i64 a).wf = true) (hb : (Lit.int .i64 b).wf = true) :
    Calls Try.prog 6 #[.int .i64 a, .int .i64 b] w fun e w' => e = .returned (.bool true) ∧ Below w.heap.size w w' := law_order a b w
end Go.Proofs.Ythcoccoanpmhgaa
