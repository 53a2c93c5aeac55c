/- Layer 1: the laws, walked. -/
import Derived.Test.YthcoccoanpmhgaaVarAwake
import Derived.Test.YthcoccoanpmhgaaOpen
namespace Go.Proofs.Ythcoccoanpmhgaa
open Go.RowKit
set_option linter.unusedVariables false
set_option linter.unusedSimpArgs false
def MG.sl {α : Type} (d : Kd α) (hs : 0 < d.sz) (O : Nat → Prop) (xs : List α) : MG := ⟨fun v w => Sl d w O v xs, fun v w w' hb h => h.keep hs (keeps_of hb _)⟩
set_option maxHeartbeats 1000000 in
set_option maxRecDepth 100000 in
theorem law_is (b : List UInt8) (n : Int) (v : Value) (w : World) (h : Sl kU8 w (fun _ => False) v b)
    (haw : ∀ w, Calls Try.prog 9 #[] w fun e w' => e = .returned (.bool true) ∧ Below w.heap.size w w') :
    Calls Try.prog 3 #[v, .int .i64 n] w fun e w' => e = .returned (.bool true) ∧ Below w.heap.size w w' := by
  obtain ⟨A, c, rfl, hl, hc⟩ := h.val
  have H := Lib.hid h
  have HA := Lib.hid haw
  clear h haw
  by_cases h1 : 1000 < b.length
  · go_enter Try.func3, Try.ntmps3
    go_wp2_with (first
      | (go_at_call 9; refine (HA.out _).mono ?_; rintro e w1 ⟨rfl, hb1⟩))
    go_ret
    exact ⟨rfl, hb1⟩
  have h2 : b.length ≤ 1000 := by omega
  go_enter Try.func3, Try.ntmps3
  go_wp2_with (first
    | (go_at_call 9; refine (HA.out _).mono ?_; rintro e w1 ⟨rfl, hb1⟩)
    | (go_at_call 10; refine (get_below b _ _ _ (H.out.later (by decide) hb1)).mono ?_; rintro e w2 ⟨v2, rfl, hs2, hb2⟩)
    | (go_at_call 11; refine (rget_below b _ _ _ ((H.out.later (by decide) hb1).keep (by decide) (keeps_of hb2 _))).mono ?_; rintro e w3 ⟨v3, rfl, hs3, hb3⟩))
  have hb : Below w.heap.size w w3 := Bel.trans _ _ _ (Bel.trans _ _ _ hb1 hb2) hb3
  have hs := H.out.later (by decide) hb
  replace hs2 := hs2.keep (by decide) (keeps_of hb3 _)
  have HS := Lib.hid hs
  have HS2 := Lib.hid hs2
  have HS3 := Lib.hid hs3
  have HB := Lib.hid hb
  have HL := Lib.hid h2
  clear hs hs2 hs3 hb hl hc h1 h2 HA H hb1 hb2 hb3
  refine wp_region_A [(20, .val (.int .i64 (vsize n))), (22, .val (.int .i64 (vsize n))), (28, .sl kU8 (by decide) (fun _ => False) (b ++ vput n)), (32, .sl kU8 (by decide) (fun _ => False) (b ++ vput n))] (by kernel_rfl) (by kernel_rfl) ?_
  intro ops F w0 pl hops hpl hw0 hF
  have hw0' := hw0.out
  subst hw0'
  repeat (refine wpL_pure (by first | rfl | (rw [hops.out]; rfl)) (by rw [hpl.out]; rfl) ?_ (fun wq hE hK => ?_) ?_; rotate_left; (clear hE hK; go_simp; rfl); (simp only [Act.put, List.setIfInBounds_toArray, List.set_cons_succ, List.set_cons_zero, Nat.reduceAdd, Nat.zero_add]))
  refine wpL_pure (by first | rfl | (rw [hops.out]; rfl)) (by rw [hpl.out]; rfl) ?_ (fun wq hE hK => ?_) ?_
  rotate_left
  · have hcv := conv_str (HS2.out.keep (by decide) (keeps_of hE _))
    clear hE hK
    go_simp
    rfl
  simp only [Act.put, List.setIfInBounds_toArray, List.set_cons_succ, List.set_cons_zero, Nat.reduceAdd, Nat.zero_add]
  repeat (refine wpL_pure (by first | rfl | (rw [hops.out]; rfl)) (by rw [hpl.out]; rfl) ?_ (fun wq hE hK => ?_) ?_; rotate_left; (clear hE hK; go_simp; rfl); (simp only [Act.put, List.setIfInBounds_toArray, List.set_cons_succ, List.set_cons_zero, Nat.reduceAdd, Nat.zero_add]))
  refine wpL_pure (by first | rfl | (rw [hops.out]; rfl)) (by rw [hpl.out]; rfl) ?_ (fun wq hE hK => ?_) ?_
  rotate_left
  · have hcv := conv_str (HS3.out.keep (by decide) (keeps_of hE _))
    clear hE hK
    go_simp
    rfl
  simp only [Act.put, List.setIfInBounds_toArray, List.set_cons_succ, List.set_cons_zero, Nat.reduceAdd, Nat.zero_add]
  repeat (refine wpL_pure (by first | rfl | (rw [hops.out]; rfl)) (by rw [hpl.out]; rfl) ?_ (fun wq hE hK => ?_) ?_; rotate_left; (clear hE hK; go_simp; rfl); (simp only [Act.put, List.setIfInBounds_toArray, List.set_cons_succ, List.set_cons_zero, Nat.reduceAdd, Nat.zero_add]))
  refine wpL_fact (by first | rfl | (rw [hops.out]; rfl)) (by rw [hpl.out]; rfl) (fun wq hE hK => ?_) (fun x20 => ?_)
  · unfold StepOk
    clear hK
    go_simp
    refine (size_calls _ _).mono ?_
    rintro e w' ⟨rfl, rfl⟩
    exact ⟨Bel.refl _, rfl⟩
  simp only [Act.put, List.setIfInBounds_toArray, List.set_cons_succ, List.set_cons_zero, Nat.reduceAdd, Nat.zero_add]
  repeat (refine wpL_pure (by first | rfl | (rw [hops.out]; rfl)) (by rw [hpl.out]; rfl) ?_ (fun wq hE hK => ?_) ?_; rotate_left; (clear hE hK; go_simp; rfl); (simp only [Act.put, List.setIfInBounds_toArray, List.set_cons_succ, List.set_cons_zero, Nat.reduceAdd, Nat.zero_add]))
  refine wpL_fact (by first | rfl | (rw [hops.out]; rfl)) (by rw [hpl.out]; rfl) (fun wq hE hK => ?_) (fun x22 => ?_)
  · unfold StepOk
    clear hK
    go_simp
    refine (rsize_calls _ _).mono ?_
    rintro e w' ⟨rfl, rfl⟩
    exact ⟨Bel.refl _, rfl⟩
  simp only [Act.put, List.setIfInBounds_toArray, List.set_cons_succ, List.set_cons_zero, Nat.reduceAdd, Nat.zero_add]
  refine wpL_pure (by first | rfl | (rw [hops.out]; rfl)) (by rw [hpl.out]; rfl) ?_ (fun wq hE hK => ?_) ?_
  rotate_left
  · have e20 : x20 = .int .i64 (vsize n) := hK _ (.tail _ (.head _)) (by rw [hops.out]; kernel_rfl)
    have e22 : x22 = .int .i64 (vsize n) := hK _ (.head _) (by rw [hops.out]; kernel_rfl)
    clear hE hK
    go_simp
    rfl
  simp only [Act.put, List.setIfInBounds_toArray, List.set_cons_succ, List.set_cons_zero, Nat.reduceAdd, Nat.zero_add]
  repeat (refine wpL_pure (by first | rfl | (rw [hops.out]; rfl)) (by rw [hpl.out]; rfl) ?_ (fun wq hE hK => ?_) ?_; rotate_left; (clear hE hK; go_simp; rfl); (simp only [Act.put, List.setIfInBounds_toArray, List.set_cons_succ, List.set_cons_zero, Nat.reduceAdd, Nat.zero_add]))
  refine wpL_fact (by first | rfl | (rw [hops.out]; rfl)) (by rw [hpl.out]; rfl) (fun wq hE hK => ?_) (fun x28 => ?_)
  · unfold StepOk
    clear hK
    go_simp
    refine (put_calls b n _ _ _ (HS.out.keep (by decide) (keeps_of hE _)) (by have := HL.out; omega)).mono ?_
    rintro e w' ⟨v', rfl, ho⟩
    exact ⟨ho.2, ho.sl (fun _ h => h.elim)⟩
  simp only [Act.put, List.setIfInBounds_toArray, List.set_cons_succ, List.set_cons_zero, Nat.reduceAdd, Nat.zero_add]
  refine wpL_pure (by first | rfl | (rw [hops.out]; rfl)) (by rw [hpl.out]; rfl) ?_ (fun wq hE hK => ?_) ?_
  rotate_left
  · have hx : Sl kU8 _ (fun _ => False) x28 (b ++ vput n) := hK _ (.head _) (by rw [hops.out]; kernel_rfl)
    have hcv := conv_str hx
    clear hE hK
    go_simp
    rfl
  simp only [Act.put, List.setIfInBounds_toArray, List.set_cons_succ, List.set_cons_zero, Nat.reduceAdd, Nat.zero_add]
  repeat (refine wpL_pure (by first | rfl | (rw [hops.out]; rfl)) (by rw [hpl.out]; rfl) ?_ (fun wq hE hK => ?_) ?_; rotate_left; (clear hE hK; go_simp; rfl); (simp only [Act.put, List.setIfInBounds_toArray, List.set_cons_succ, List.set_cons_zero, Nat.reduceAdd, Nat.zero_add]))
  refine wpL_fact (by first | rfl | (rw [hops.out]; rfl)) (by rw [hpl.out]; rfl) (fun wq hE hK => ?_) (fun x32 => ?_)
  · unfold StepOk
    clear hK
    go_simp
    refine (rput_calls b n _ _ _ (HS.out.keep (by decide) (keeps_of hE _)) (by have := HL.out; omega)).mono ?_
    rintro e w' ⟨v', rfl, ho⟩
    exact ⟨ho.2, ho.sl (fun _ h => h.elim)⟩
  simp only [Act.put, List.setIfInBounds_toArray, List.set_cons_succ, List.set_cons_zero, Nat.reduceAdd, Nat.zero_add]
  refine wpL_pure (by first | rfl | (rw [hops.out]; rfl)) (by rw [hpl.out]; rfl) ?_ (fun wq hE hK => ?_) ?_
  rotate_left
  · have hx : Sl kU8 _ (fun _ => False) x32 (b ++ vput n) := hK _ (.head _) (by rw [hops.out]; kernel_rfl)
    have hcv := conv_str hx
    clear hE hK
    go_simp
    rfl
  simp only [Act.put, List.setIfInBounds_toArray, List.set_cons_succ, List.set_cons_zero, Nat.reduceAdd, Nat.zero_add]
  repeat (refine wpL_pure (by first | rfl | (rw [hops.out]; rfl)) (by rw [hpl.out]; rfl) ?_ (fun wq hE hK => ?_) ?_; rotate_left; (clear hE hK; go_simp; rfl); (simp only [Act.put, List.setIfInBounds_toArray, List.set_cons_succ, List.set_cons_zero, Nat.reduceAdd, Nat.zero_add]))
  refine wpL_nil fun w' hE hK => hF.out _ _ ?_
  go_wp2
  go_ret
  exact ⟨rfl, HB.out.trans (hE.mono HB.out.size)⟩
theorem opens_bytes : Opens Try.prog 22 kBytes := opens_sl _ und_bytes (by kernel_rfl) (opens_u8 und_u8)
theorem run_is (w : World) {b : List UInt8} {n : Int} {A : Option Addr} {l c : Nat} (h : Sl kU8 w (fun _ => False) (.slice A l c) b) (hn : (Lit.int .i64 n).wf = true) :
    Calls Try.prog 3 #[.slice A l c, .int .i64 n] w fun e w' => e = .returned (.bool true) ∧ Below w.heap.size w w' := law_is b n _ w h awake_calls
end Go.Proofs.Ythcoccoanpmhgaa
