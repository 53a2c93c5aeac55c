/- Layer 3: the law BlockIs, walked. -/
import Derived.Test.YthcoccoanpmhgaaDoorBlkRMix
import Derived.Test.YthcoccoanpmhgaaDoorArrEq
namespace Go.Proofs.YthcoccoanpmhgaaDoor
open Go.RowKit
set_option linter.unusedVariables false
set_option linter.unusedSimpArgs false
theorem eql8 (l : List UInt32) (hl : l.length = 8) (w : World) : (binOp .eql 23 (.agg (u32s l)) (.agg (u32s l))).run Tryd.prog w = .ok (.bool true) w :=
  run_eql_same w8_und und_u32 u32_one (by rw [u32s_size, hl]) fun j hj => ⟨_, u32s_get l j (by omega)⟩
theorem eql64 (l : List UInt32) (hl : l.length = 64) (w : World) : (binOp .eql 27 (.agg (u32s l)) (.agg (u32s l))).run Tryd.prog w = .ok (.bool true) w :=
  run_eql_same w64_und und_u32 u32_one (by rw [u32s_size, hl]) fun j hj => ⟨_, u32s_get l j (by omega)⟩
theorem eg8 : Tryd.prog.eqGuardType Tryd.prog.depth 23 = false := by kernel_rfl
theorem eg64 : Tryd.prog.eqGuardType Tryd.prog.depth 27 = false := by kernel_rfl
theorem mix_len (h : List UInt32) (b : List UInt8) (hh : h.length = 8) : (mix h b).length = 8 := by unfold mix; rw [List.length_zipWith, hh]; rfl
def probe : List UInt8 := 128 :: List.replicate 63 0
theorem probe_mix : (mix firsts probe).getD 0 0 = 3820012610 := by decide +kernel
theorem probe_0 : (spread probe).getD 0 0 = 2147483648 := by decide +kernel
theorem probe_1 : (spread probe).getD 1 0 = 0 := by decide +kernel
theorem probe_16 : (spread probe).getD 16 0 = 2147483648 := by decide +kernel
set_option maxHeartbeats 1000000 in
set_option maxRecDepth 100000 in
theorem awake_calls (w : World) (hT : Tab w) : Calls Tryd.prog 7 #[] w fun e w' => e = .returned (.bool true) ∧ Below w.heap.size w w' := by
  have hz := Lib.hid (zero_of_info b64_info).1
  have hz8 := Lib.hid (zero_of_info w8_info).1
  have hz64 := Lib.hid (zero_of_info w64_info).1
  have HT := Lib.hid hT
  obtain ⟨p, hp⟩ : ∃ p, p = probe := ⟨_, rfl⟩
  have hq64 : p.length = 64 := by rw [hp]; rfl
  have HP := Lib.hid hp
  obtain ⟨f, hf⟩ : ∃ f, f = firsts := ⟨_, rfl⟩
  have HF := Lib.hid hf
  have hfl : f.length = 8 := by rw [hf]; rfl
  have HM0 := Lib.hid (show (mix f p).getD 0 0 = 3820012610 by rw [hf, hp]; exact probe_mix)
  have HM1 := Lib.hid (show (spread p).getD 0 0 = 2147483648 by rw [hp]; exact probe_0)
  have HM2 := Lib.hid (show (spread p).getD 1 0 = 0 by rw [hp]; exact probe_1)
  have HM3 := Lib.hid (show (spread p).getD 16 0 = 2147483648 by rw [hp]; exact probe_16)
  clear hT hp hf
  go_enter Tryd.func7, Tryd.ntmps7
  go_wp2_with (first
    | (refine wpList_alloc_arr rfl rfl hz.out ?_; intro g1 w1 hg1 r1 hb1)
    | (refine wpList_store_arr (cells := u8s (List.replicate 64 0)) rfl rfl rfl rfl r1 (size_of b64_info) rfl (u8s_one _) ?_; intro w2 r1 hu2)
    | (refine wpList_store_cell (v := .int .u8 128) rfl rfl rfl rfl rfl r1 u8_one (by rw [u8s_size]; decide) ?_; intro w3 r1 hu3; replace r1 : Row w3 g1 24 (u8s probe) := r1; rw [← HP.out] at r1))
  have hb3 := below_upd (below_upd hb1 hu2 hg1) hu3 hg1
  have HB := Lib.hid hb3
  have HT := Lib.hid (((HT.out.bel hb1).upd hu2 (by have := HT.out.1; omega)).upd hu3 (by have := HT.out.1; omega))
  have R1 := Lib.hid r1
  clear hb3 hb1 hu2 hu3 r1
  have hml := mix_len f p hfl
  try simp only [Act.put, List.setIfInBounds_toArray, List.set_cons_succ, List.set_cons_zero, Nat.reduceAdd, Nat.zero_add]
  refine wp_region_T 4 [(0, MG.val (.agg (u32s f))), (2, MG.val (.agg (u32s (mix f p)))), (3, MG.row 23 w3.heap.size (u32s (List.replicate 8 0)))] (by kernel_rfl) (by kernel_rfl) ?_
  intro ops F w0 pl hops hpl hw0 hF
  have hw0' := hw0.out
  subst hw0'
  simp only [List.take_succ_cons, List.take_zero, List.drop_succ_cons, List.drop_zero] at hF ⊢
  refine wpL_val (u := .agg (u32s f)) (by first | rfl | (rw [hops.out]; rfl)) (by rw [hpl.out]; rfl) (fun wq hE hK => ?_) ?_
  · unfold StepOk
    clear hK
    go_simp
    refine (first_calls _).mono ?_
    rintro e w' ⟨rfl, hb⟩
    exact ⟨by rw [HF.out], hb⟩
  simp only [Act.put, List.setIfInBounds_toArray, List.set_cons_succ, List.set_cons_zero, Nat.reduceAdd, Nat.zero_add]
  refine wpL_pure (by first | rfl | (rw [hops.out]; rfl)) (by rw [hpl.out]; rfl) _ (fun wq hE hK => run_load_arr rfl rfl (R1.out.bel hE) b64_und ((size_of b64_info).trans (by rw [u8s_size, hq64]))) ?_
  simp only [Act.put, List.setIfInBounds_toArray, List.set_cons_succ, List.set_cons_zero, Nat.reduceAdd, Nat.zero_add]
  refine wpL_val (u := .agg (u32s (mix f p))) (by first | rfl | (rw [hops.out]; rfl)) (by rw [hpl.out]; rfl) (fun wq hE hK => ?_) ?_
  · unfold StepOk
    clear hK
    go_simp
    refine (mix_calls f p hfl hq64 _ (HT.out.bel hE)).mono ?_
    rintro e w' ⟨rfl, hb⟩
    exact ⟨rfl, hb⟩
  simp only [Act.put, List.setIfInBounds_toArray, List.set_cons_succ, List.set_cons_zero, Nat.reduceAdd, Nat.zero_add]
  refine wpL_fact (by first | rfl | (rw [hops.out]; rfl)) (by rw [hpl.out]; rfl) (fun wq hE hK => step_alloc_arr rfl hz8.out hE.size) (fun x3 h_x3 => ?_)
  simp only [Act.put, List.setIfInBounds_toArray, List.set_cons_succ, List.set_cons_zero, Nat.reduceAdd, Nat.zero_add]
  obtain ⟨g4, rfl, hg4⟩ := h_x3
  refine wpL_nil fun w' hE hK => hF.out _ _ ?_
  obtain ⟨g4', e4, _, r4⟩ := hK _ (.head _)
  obtain rfl := ptr_inj e4
  clear hK e4
  have HE := Lib.hid hE
  refine wpList_store_arr (cells := u32s (mix f p)) rfl rfl rfl rfl r4 ((size_of w8_info).trans (by rw [u32s_size, hml])) (by rw [u32s_size, u32s_size, hml]; rfl) (u32s_one _) ?_
  intro w5 r5 hu5
  have hs0 : (spread p).length = 64 := rounds_len p
  have q1 := R1.out.lt
  have r1 := (R1.out.bel HE.out).upd hu5 (by omega)
  have hwb := below_upd (below_bel HB.out HE.out HB.out.size) hu5 (by have := HB.out.size; omega)
  go_wp2_with (first
    | (refine wpList_load_arr rfl rfl rfl r1 b64_und ((size_of b64_info).trans (by rw [u8s_size, hq64])) ?_)
    | (go_at_call 10; refine (spread_calls p hq64 _).mono ?_; rintro e w6 ⟨rfl, hb6⟩; replace r5 := r5.bel hb6)
    | (refine wpList_alloc_arr rfl rfl hz64.out ?_; intro g7 w7 hg7 r7 hb7; have q5 := r5.lt; replace r5 := r5.bel hb7)
    | (refine wpList_store_arr (cells := u32s (spread p)) rfl rfl rfl rfl r7 ((size_of w64_info).trans (by rw [u32s_size, hs0])) (by rw [u32s_size, u32s_size, hs0]; rfl) (u32s_one _) ?_; intro w8 r8 hu8; replace r5 := r5.upd hu8 (by omega); have hc0 : w8.cell? ⟨g4, 0, none⟩ = some (.int .u32 3820012610) := (r5.w32 (i := 0) (by rw [hml]; omega)).trans (by rw [HM0.out]; rfl); have hd0 : w8.cell? ⟨g7, 0, none⟩ = some (.int .u32 2147483648) := (r8.w32 (i := 0) (by omega)).trans (by rw [HM1.out]; rfl); have hd1 : w8.cell? ⟨g7, 1, none⟩ = some (.int .u32 0) := (r8.w32 (i := 1) (by omega)).trans (by rw [HM2.out]; rfl); have hd16 : w8.cell? ⟨g7, 16, none⟩ = some (.int .u32 2147483648) := (r8.w32 (i := 16) (by omega)).trans (by rw [HM3.out]; rfl); have HW := Lib.hid (below_upd ((below_bel (below_bel hwb hb6 hwb.size) hb7 (Nat.le_trans hwb.size hb6.size))) hu8 (by have := hwb.size; have := hb6.size; omega)); clear r5 r8 hu8 hb7 hb6))
  go_ret
  exact ⟨rfl, HW.out⟩
set_option maxHeartbeats 2000000 in
set_option maxRecDepth 100000 in
theorem law_is (h : List UInt32) (b : List UInt8) (hh : h.length = 8) (hb : b.length = 64) (w : World) (hT : Tab w) :
    Calls Tryd.prog 3 #[.agg (u32s h), .agg (u8s b)] w fun e w' => e = .returned (.bool true) ∧ Below w.heap.size w w' := by
  have HT := Lib.hid hT
  have hfl : firsts.length = 8 := rfl
  obtain ⟨f, hf⟩ : ∃ f, f = firsts := ⟨_, rfl⟩
  have HF := Lib.hid hf
  rw [← hf] at hfl
  clear hT hf
  go_enter Tryd.func3, Tryd.ntmps3
  go_wp2_with (first
    | (replace r2 := r2; refine wpList_box_arr rfl rfl rfl ?_; intro g3 w3 hg3 r3 hb3; replace r2 := r2.bel hb3)
    | (refine wpList_box_arr rfl rfl rfl ?_; intro g2 w2 hg2 r2 hb2)
    | (go_at_call 7; refine (awake_calls _ (HT.out.bel (Bel.trans _ _ _ hb2 hb3))).mono ?_; rintro e w4 ⟨rfl, hb4⟩))
  have HB := Lib.hid (Bel.trans _ _ _ (Bel.trans _ _ _ hb2 hb3) hb4)
  have R2 := Lib.hid (r2.bel hb4)
  have R3 := Lib.hid (r3.bel hb4)
  have HT := Lib.hid (HT.out.bel HB.out)
  clear hb2 hb3 hb4 r2 r3
  try simp only [Act.put, List.setIfInBounds_toArray, List.set_cons_succ, List.set_cons_zero, Nat.reduceAdd, Nat.zero_add]
  refine wp_region_A [(2, MG.val (.agg (u32s f))), (3, MG.val (.agg (u32s f))), (8, MG.val (.agg (u32s (spread b)))), (10, MG.val (.agg (u32s (spread b)))), (16, MG.val (.agg (u32s (mix h b)))), (19, MG.val (.agg (u32s (mix h b))))] (by kernel_rfl) (by kernel_rfl) ?_
  intro ops F w0 pl hops hpl hw0 hF
  have hw0' := hw0.out
  subst hw0'
  repeat (first | (refine wpL_pure (by first | rfl | (rw [hops.out]; rfl)) (by rw [hpl.out]; rfl) ?_ (fun wq hE hK => ?_) ?_; rotate_left; (clear hE hK; go_simp; rfl); (simp only [Act.put, List.setIfInBounds_toArray, List.set_cons_succ, List.set_cons_zero, Nat.reduceAdd, Nat.zero_add])) | (refine wpL_skip (by first | rfl | (rw [hops.out]; rfl)) ?_; simp only [Act.put, List.setIfInBounds_toArray, List.set_cons_succ, List.set_cons_zero, Nat.reduceAdd, Nat.zero_add]))
  refine wpL_val (u := .agg (u32s f)) (by first | rfl | (rw [hops.out]; rfl)) (by rw [hpl.out]; rfl) (fun wq hE hK => ?_) ?_
  · unfold StepOk
    clear hK
    go_simp
    refine (first_calls _).mono ?_
    rintro e w' ⟨rfl, hbel⟩
    exact ⟨by rw [HF.out], hbel⟩
  simp only [Act.put, List.setIfInBounds_toArray, List.set_cons_succ, List.set_cons_zero, Nat.reduceAdd, Nat.zero_add]
  refine wpL_val (u := .agg (u32s f)) (by first | rfl | (rw [hops.out]; rfl)) (by rw [hpl.out]; rfl) (fun wq hE hK => ?_) ?_
  · unfold StepOk
    clear hK
    go_simp
    refine (rfirst_calls _).mono ?_
    rintro e w' ⟨rfl, hbel⟩
    exact ⟨by rw [HF.out], hbel⟩
  simp only [Act.put, List.setIfInBounds_toArray, List.set_cons_succ, List.set_cons_zero, Nat.reduceAdd, Nat.zero_add]
  refine wpL_pure (by first | rfl | (rw [hops.out]; rfl)) (by rw [hpl.out]; rfl) _ (fun wq hE hK => run_op_eql_same rfl rfl rfl eg8 (eql8 f hfl _)) ?_
  simp only [Act.put, List.setIfInBounds_toArray, List.set_cons_succ, List.set_cons_zero, Nat.reduceAdd, Nat.zero_add]
  repeat (first | (refine wpL_pure (by first | rfl | (rw [hops.out]; rfl)) (by rw [hpl.out]; rfl) ?_ (fun wq hE hK => ?_) ?_; rotate_left; (clear hE hK; go_simp; rfl); (simp only [Act.put, List.setIfInBounds_toArray, List.set_cons_succ, List.set_cons_zero, Nat.reduceAdd, Nat.zero_add])) | (refine wpL_skip (by first | rfl | (rw [hops.out]; rfl)) ?_; simp only [Act.put, List.setIfInBounds_toArray, List.set_cons_succ, List.set_cons_zero, Nat.reduceAdd, Nat.zero_add]))
  refine wpL_pure (by first | rfl | (rw [hops.out]; rfl)) (by rw [hpl.out]; rfl) _ (fun wq hE hK => run_load_arr rfl rfl (R3.out.bel hE) b64_und ((size_of b64_info).trans (by rw [u8s_size, hb]))) ?_
  simp only [Act.put, List.setIfInBounds_toArray, List.set_cons_succ, List.set_cons_zero, Nat.reduceAdd, Nat.zero_add]
  refine wpL_val (u := .agg (u32s (spread b))) (by first | rfl | (rw [hops.out]; rfl)) (by rw [hpl.out]; rfl) (fun wq hE hK => ?_) ?_
  · unfold StepOk
    clear hK
    go_simp
    refine (spread_calls b hb _).mono ?_
    rintro e w' ⟨rfl, hbel⟩
    exact ⟨rfl, hbel⟩
  simp only [Act.put, List.setIfInBounds_toArray, List.set_cons_succ, List.set_cons_zero, Nat.reduceAdd, Nat.zero_add]
  refine wpL_pure (by first | rfl | (rw [hops.out]; rfl)) (by rw [hpl.out]; rfl) _ (fun wq hE hK => run_load_arr rfl rfl (R3.out.bel hE) b64_und ((size_of b64_info).trans (by rw [u8s_size, hb]))) ?_
  simp only [Act.put, List.setIfInBounds_toArray, List.set_cons_succ, List.set_cons_zero, Nat.reduceAdd, Nat.zero_add]
  refine wpL_val (u := .agg (u32s (spread b))) (by first | rfl | (rw [hops.out]; rfl)) (by rw [hpl.out]; rfl) (fun wq hE hK => ?_) ?_
  · unfold StepOk
    clear hK
    go_simp
    refine (rspread_calls b hb _).mono ?_
    rintro e w' ⟨rfl, hbel⟩
    exact ⟨rfl, hbel⟩
  simp only [Act.put, List.setIfInBounds_toArray, List.set_cons_succ, List.set_cons_zero, Nat.reduceAdd, Nat.zero_add]
  refine wpL_pure (by first | rfl | (rw [hops.out]; rfl)) (by rw [hpl.out]; rfl) _ (fun wq hE hK => run_op_eql_same rfl rfl rfl eg64 (eql64 _ (rounds_len b) _)) ?_
  simp only [Act.put, List.setIfInBounds_toArray, List.set_cons_succ, List.set_cons_zero, Nat.reduceAdd, Nat.zero_add]
  repeat (first | (refine wpL_pure (by first | rfl | (rw [hops.out]; rfl)) (by rw [hpl.out]; rfl) ?_ (fun wq hE hK => ?_) ?_; rotate_left; (clear hE hK; go_simp; rfl); (simp only [Act.put, List.setIfInBounds_toArray, List.set_cons_succ, List.set_cons_zero, Nat.reduceAdd, Nat.zero_add])) | (refine wpL_skip (by first | rfl | (rw [hops.out]; rfl)) ?_; simp only [Act.put, List.setIfInBounds_toArray, List.set_cons_succ, List.set_cons_zero, Nat.reduceAdd, Nat.zero_add]))
  refine wpL_pure (by first | rfl | (rw [hops.out]; rfl)) (by rw [hpl.out]; rfl) _ (fun wq hE hK => run_load_arr rfl rfl (R2.out.bel hE) w8_und ((size_of w8_info).trans (by rw [u32s_size, hh]))) ?_
  simp only [Act.put, List.setIfInBounds_toArray, List.set_cons_succ, List.set_cons_zero, Nat.reduceAdd, Nat.zero_add]
  refine wpL_pure (by first | rfl | (rw [hops.out]; rfl)) (by rw [hpl.out]; rfl) _ (fun wq hE hK => run_load_arr rfl rfl (R3.out.bel hE) b64_und ((size_of b64_info).trans (by rw [u8s_size, hb]))) ?_
  simp only [Act.put, List.setIfInBounds_toArray, List.set_cons_succ, List.set_cons_zero, Nat.reduceAdd, Nat.zero_add]
  refine wpL_val (u := .agg (u32s (mix h b))) (by first | rfl | (rw [hops.out]; rfl)) (by rw [hpl.out]; rfl) (fun wq hE hK => ?_) ?_
  · unfold StepOk
    clear hK
    go_simp
    refine (mix_calls h b hh hb _ (HT.out.bel hE)).mono ?_
    rintro e w' ⟨rfl, hbel⟩
    exact ⟨rfl, hbel⟩
  simp only [Act.put, List.setIfInBounds_toArray, List.set_cons_succ, List.set_cons_zero, Nat.reduceAdd, Nat.zero_add]
  refine wpL_pure (by first | rfl | (rw [hops.out]; rfl)) (by rw [hpl.out]; rfl) _ (fun wq hE hK => run_load_arr rfl rfl (R2.out.bel hE) w8_und ((size_of w8_info).trans (by rw [u32s_size, hh]))) ?_
  simp only [Act.put, List.setIfInBounds_toArray, List.set_cons_succ, List.set_cons_zero, Nat.reduceAdd, Nat.zero_add]
  refine wpL_pure (by first | rfl | (rw [hops.out]; rfl)) (by rw [hpl.out]; rfl) _ (fun wq hE hK => run_load_arr rfl rfl (R3.out.bel hE) b64_und ((size_of b64_info).trans (by rw [u8s_size, hb]))) ?_
  simp only [Act.put, List.setIfInBounds_toArray, List.set_cons_succ, List.set_cons_zero, Nat.reduceAdd, Nat.zero_add]
  refine wpL_val (u := .agg (u32s (mix h b))) (by first | rfl | (rw [hops.out]; rfl)) (by rw [hpl.out]; rfl) (fun wq hE hK => ?_) ?_
  · unfold StepOk
    clear hK
    go_simp
    refine (rmix_calls h b hh hb _).mono ?_
    rintro e w' ⟨rfl, hbel⟩
    exact ⟨rfl, hbel⟩
  simp only [Act.put, List.setIfInBounds_toArray, List.set_cons_succ, List.set_cons_zero, Nat.reduceAdd, Nat.zero_add]
  refine wpL_pure (by first | rfl | (rw [hops.out]; rfl)) (by rw [hpl.out]; rfl) _ (fun wq hE hK => run_op_eql_same rfl rfl rfl eg8 (eql8 _ (mix_len h b hh) _)) ?_
  simp only [Act.put, List.setIfInBounds_toArray, List.set_cons_succ, List.set_cons_zero, Nat.reduceAdd, Nat.zero_add]
  repeat (first | (refine wpL_pure (by first | rfl | (rw [hops.out]; rfl)) (by rw [hpl.out]; rfl) ?_ (fun wq hE hK => ?_) ?_; rotate_left; (clear hE hK; go_simp; rfl); (simp only [Act.put, List.setIfInBounds_toArray, List.set_cons_succ, List.set_cons_zero, Nat.reduceAdd, Nat.zero_add])) | (refine wpL_skip (by first | rfl | (rw [hops.out]; rfl)) ?_; simp only [Act.put, List.setIfInBounds_toArray, List.set_cons_succ, List.set_cons_zero, Nat.reduceAdd, Nat.zero_add]))
  refine wpL_nil fun w' hE hK => hF.out _ _ ?_
  clear hK
  go_wp2
  go_ret
  exact ⟨rfl, Bel.trans _ _ _ HB.out hE⟩
theorem run_is (w : World) (hT : Tab w) {h : List UInt32} {b : List UInt8} (hh : h.length = 8) (hb : b.length = 64) :
    Calls Tryd.prog 3 #[.agg (h.map fun x => Value.int .u32 (wv x)).toArray, .agg (b.map fun x => Value.int .u8 x.toNat).toArray] w fun e w' => e = .returned (.bool true) ∧ Below w.heap.size w w' := law_is h b hh hb w hT
end Go.Proofs.YthcoccoanpmhgaaDoor
