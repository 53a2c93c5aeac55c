/- Layer 1: further laws, walked. -/
import Derived.Test.YthcoccoanpmhgaaVarPure3
import Derived.Test.YthcoccoanpmhgaaVarLaw
namespace Go.Proofs.Ythcoccoanpmhgaa
open Go.RowKit
set_option linter.unusedVariables false
set_option linter.unusedSimpArgs false
set_option maxHeartbeats 1000000 in
set_option maxRecDepth 100000 in
theorem law_size (n : Int) (w : World) : Calls Try.prog 8 #[.int .i64 n] w fun e w' => e = .returned (.bool true) ∧ Below w.heap.size w w' := by
  by_cases hs : vsize n = 0
  · obtain h1 := (vput_none hs).2
    by_cases h2 : n < 0
    all_goals
      go_enter Try.func8, Try.ntmps8
      go_wp2_with (first | (go_at_call 9; refine (awake_calls _).mono ?_; rintro e w1 ⟨rfl, hb1⟩) | (go_at_call 12; refine (size_calls _ _).mono ?_; rintro e w' ⟨rfl, rfl⟩))
      go_ret
      exact ⟨by simp <;> omega, hb1⟩
  · rcases vput_cases n hs with ⟨h1, h2, h3, h4⟩ | ⟨h1, h2, h3, h4⟩ | ⟨h1, h2, h3, h4⟩
    all_goals
      clear h4 hs
      go_enter Try.func8, Try.ntmps8
      go_wp2_with (first | (go_at_call 9; refine (awake_calls _).mono ?_; rintro e w1 ⟨rfl, hb1⟩) | (go_at_call 12; refine (size_calls _ _).mono ?_; rintro e w' ⟨rfl, rfl⟩))
      go_ret
      exact ⟨by simp <;> omega, hb1⟩
set_option maxHeartbeats 1000000 in
set_option maxRecDepth 100000 in
theorem law_only (b : List UInt8) (v : Value) (w : World) (h : Sl kU8 w (fun _ => False) v b) :
    Calls Try.prog 5 #[v] w fun e w' => e = .returned (.bool true) ∧ Below w.heap.size w w' := by
  obtain ⟨A, c, rfl, hl, hc⟩ := h.val
  have H := Lib.hid h
  clear h
  by_cases h1 : 1000 < b.length
  · go_enter Try.func5, Try.ntmps5
    go_wp2_with (first
      | (go_at_call 9; refine (awake_calls _).mono ?_; rintro e w1 ⟨rfl, hb1⟩))
    go_ret
    exact ⟨rfl, hb1⟩
  have h2 : b.length ≤ 1000 := by omega
  have hput := fun h => vput_get b h
  have HP := Lib.hid hput
  clear hput
  rcases vget_err b with he | ⟨he1, he2, he3⟩
  · obtain ⟨hp1, hp2⟩ := HP.out he
    have HP1 := Lib.hid hp1
    generalize hn : (vget b).1 = n at *
    generalize hr : (vget b).2.1 = r at *
    clear HP hp1 hp2
    have HN := Lib.hid hn
    have HR := Lib.hid hr
    clear hn hr
    go_enter Try.func5, Try.ntmps5
    go_wp2_with (first
      | (go_at_call 9; refine (awake_calls _).mono ?_; rintro e w1 ⟨rfl, hb1⟩)
      | (go_at_call 10; refine (get_below b _ _ _ (H.out.later (by decide) hb1)).mono ?_; rw [HN.out, HR.out, he]; rintro e w2 ⟨v2, rfl, hs2, hb2⟩))
    have hb : Below w.heap.size w w2 := Bel.trans _ _ _ hb1 hb2
    have hs := H.out.later (by decide) hb
    have HS := Lib.hid hs
    have HS2 := Lib.hid hs2
    have HB := Lib.hid hb
    have HL := Lib.hid h2
    clear hs hs2 hb hl hc h1 h2 H hb1 hb2
    refine wp_region_A [(3, .sl kU8 (by decide) (fun _ => False) (vput n))] (by kernel_rfl) (by kernel_rfl) ?_
    intro ops F w0 pl hops hpl hw0 hF
    have hw0' := hw0.out
    subst hw0'
    repeat (refine wpL_pure (by first | rfl | (rw [hops.out]; rfl)) (by rw [hpl.out]; rfl) ?_ (fun wq hE hK => ?_) ?_; rotate_left; (clear hE hK; go_simp; rfl); (simp only [Act.put, List.setIfInBounds_toArray, List.set_cons_succ, List.set_cons_zero, Nat.reduceAdd, Nat.zero_add]))
    refine wpL_fact (by first | rfl | (rw [hops.out]; rfl)) (by rw [hpl.out]; rfl) (fun wq hE hK => ?_) (fun x3 => ?_)
    · unfold StepOk
      clear hK
      go_simp
      refine (put_calls [] n (fun _ => False) _ _ (Sl.nil_ _ _ _) (by simp)).mono ?_
      rintro e w' ⟨v', rfl, ho⟩
      exact ⟨ho.2, ho.sl (fun _ h => h.elim)⟩
    simp only [Act.put, List.setIfInBounds_toArray, List.set_cons_succ, List.set_cons_zero, Nat.reduceAdd, Nat.zero_add]
    refine wpL_pure (by first | rfl | (rw [hops.out]; rfl)) (by rw [hpl.out]; rfl) ?_ (fun wq hE hK => ?_) ?_
    rotate_left
    · have hx : Sl kU8 _ (fun _ => False) x3 (vput n) := hK _ (.head _) (by rw [hops.out]; kernel_rfl)
      have hcv := conv_str hx
      clear hE hK
      go_simp
      rfl
    simp only [Act.put, List.setIfInBounds_toArray, List.set_cons_succ, List.set_cons_zero, Nat.reduceAdd, Nat.zero_add]
    repeat (refine wpL_pure (by first | rfl | (rw [hops.out]; rfl)) (by rw [hpl.out]; rfl) ?_ (fun wq hE hK => ?_) ?_; rotate_left; (clear hE hK; go_simp; rfl); (simp only [Act.put, List.setIfInBounds_toArray, List.set_cons_succ, List.set_cons_zero, Nat.reduceAdd, Nat.zero_add]))
    refine wpL_pure (by first | rfl | (rw [hops.out]; rfl)) (by rw [hpl.out]; rfl) ?_ (fun wq hE hK => ?_) ?_
    rotate_left
    · have hcv := conv_str (HS2.out.keep (by decide) (keeps_of hE _))
      clear hE hK
      go_simp
      rfl
    simp only [Act.put, List.setIfInBounds_toArray, List.set_cons_succ, List.set_cons_zero, Nat.reduceAdd, Nat.zero_add]
    refine wpL_pure (by first | rfl | (rw [hops.out]; rfl)) (by rw [hpl.out]; rfl) ?_ (fun wq hE hK => ?_) ?_
    rotate_left
    · have hlen : (9223372036854775807 < (vput n).length + r.length) = False := by
        have e := congrArg List.length HP1.out
        have h2 := HL.out
        rw [List.length_append] at e
        simp; omega
      have hsum := HP1.out
      clear hE hK
      go_simp
      rfl
    simp only [Act.put, List.setIfInBounds_toArray, List.set_cons_succ, List.set_cons_zero, Nat.reduceAdd, Nat.zero_add]
    repeat (refine wpL_pure (by first | rfl | (rw [hops.out]; rfl)) (by rw [hpl.out]; rfl) ?_ (fun wq hE hK => ?_) ?_; rotate_left; (clear hE hK; go_simp; rfl); (simp only [Act.put, List.setIfInBounds_toArray, List.set_cons_succ, List.set_cons_zero, Nat.reduceAdd, Nat.zero_add]))
    refine wpL_pure (by first | rfl | (rw [hops.out]; rfl)) (by rw [hpl.out]; rfl) ?_ (fun wq hE hK => ?_) ?_
    rotate_left
    · have hcv := conv_str (HS.out.keep (by decide) (keeps_of hE _))
      clear hE hK
      go_simp
      rfl
    simp only [Act.put, List.setIfInBounds_toArray, List.set_cons_succ, List.set_cons_zero, Nat.reduceAdd, Nat.zero_add]
    repeat (refine wpL_pure (by first | rfl | (rw [hops.out]; rfl)) (by rw [hpl.out]; rfl) ?_ (fun wq hE hK => ?_) ?_; rotate_left; (clear hE hK; go_simp; rfl); (simp only [Act.put, List.setIfInBounds_toArray, List.set_cons_succ, List.set_cons_zero, Nat.reduceAdd, Nat.zero_add]))
    refine wpL_nil fun w' hE hK => hF.out _ _ ?_
    go_wp2
    go_ret
    exact ⟨rfl, HB.out.trans (hE.mono HB.out.size)⟩
  · have hg : vget b = (0, [], 1) ∨ vget b = (0, [], 2) := by
      generalize vget b = g at he1 he2 he3
      obtain ⟨g1, g2, g3⟩ := g
      simp only at he1 he2 he3
      subst he1 he2
      rcases he3 with h | h <;> simp [h]
    clear HP he1 he2 he3
    rcases hg with hg | hg
    all_goals
      have HG := Lib.hid hg
      clear hg
      go_enter Try.func5, Try.ntmps5
      go_wp2_with (first
        | (go_at_call 9; refine (awake_calls _).mono ?_; rintro e w1 ⟨rfl, hb1⟩)
        | (go_at_call 10; refine (get_below b _ _ _ (H.out.later (by decide) hb1)).mono ?_; rw [HG.out]; rintro e w2 ⟨v2, rfl, hs2, hb2⟩; obtain ⟨A2, c2, rfl, _, _⟩ := hs2.val))
      go_ret
      exact ⟨rfl, Bel.trans _ _ _ hb1 hb2⟩
theorem run_size (w : World) {n : Int} (hn : (Lit.int .i64 n).wf = true) :
    Calls Try.prog 8 #[.int .i64 n] w fun e w' => e = .returned (.bool true) ∧ Below w.heap.size w w' := law_size n w
theorem run_only (w : World) {b : List UInt8} {A : Option Addr} {l c : Nat} (h : Sl kU8 w (fun _ => False) (.slice A l c) b) :
    Calls Try.prog 5 #[.slice A l c] w fun e w' => e = .returned (.bool true) ∧ Below w.heap.size w w' := law_only b _ w h
end Go.Proofs.Ythcoccoanpmhgaa
