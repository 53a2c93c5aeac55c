/- Layer 3, walked: block.First, block.Spread. -/
import Derived.Test.YthcoccoanpmhgaaDoorBlkBase
namespace Go.Proofs.YthcoccoanpmhgaaDoor
open Go.RowKit
set_option linter.unusedVariables false
set_option linter.unusedSimpArgs false
theorem wrap_small {n : Int} (h0 : 0 ≤ n) (h1 : n < 9223372036854775808) : IntKind.i64.wrap n = n := by rw [IntKind.wrap_i64]; omega
def firsts : List UInt32 := [1779033703, 3144134277, 1013904242, 2773480762, 1359893119, 2600822924, 528734635, 1541459225]
theorem size_of {P : Program} {t : TypeId} {v : Value} {n : Nat} (h : (P.info? t).map (fun i => (i.zero, i.size)) = some (some v, n)) : (P.info? t).map (·.size) = some n := (zero_of_info h).2
theorem und_u32 : Tryd.prog.underlying 22 = some (.int .u32) := by kernel_rfl
theorem und_u8 : Tryd.prog.underlying 5 = some (.int .u8) := by kernel_rfl
theorem u32_one : (Tryd.prog.info? 22).map (·.size) = some 1 := by kernel_rfl
theorem u8_one : (Tryd.prog.info? 5).map (·.size) = some 1 := by kernel_rfl
theorem idx_b (b : List UInt8) (hb : b.length = 64) (j : Nat) (h : j < 64) (w : World) : (Instr.index 24 (.agg (b8s b)) (.int .i64 (j : Int))).run Tryd.prog w = .ok (.int .u8 (b.getD j 0).toNat) w :=
  run_index_arr b64_und und_u8 u8_one (by omega) (by omega) (b8s_get b _ (by omega))
set_option maxHeartbeats 1000000 in
set_option maxRecDepth 100000 in
theorem spread_calls (b : List UInt8) (hb : b.length = 64) (w : World) :
    Calls Tryd.prog 10 #[.agg (b8s b)] w fun e w' => e = .returned (.agg (u32s (spread b))) ∧ Below w.heap.size w w' := by
  have hz := Lib.hid (zero_of_info w64_info).1
  obtain ⟨Z, hZ⟩ : ∃ Z, Z = u32s (List.replicate 64 0) := ⟨_, rfl⟩
  rw [← hZ] at hz
  obtain ⟨B, hB⟩ : ∃ B, B = b8s b := ⟨_, rfl⟩
  have hBs : B.size = 64 := by rw [hB, b8s_size, hb]
  rw [← hB]
  have HBS := Lib.hid hBs
  have HB0 := Lib.hid hB
  have HZ := Lib.hid hZ
  clear hBs hB hZ
  go_enter Tryd.func10, Tryd.ntmps10
  go_wp2_with (first
    | (refine wpList_load_arr rfl rfl rfl r1 b64_und ((size_of b64_info).trans (by rw [HBS.out])) ?_)
    | (refine wpList_box_arr rfl rfl rfl ?_; intro g1 w1 hg1 r1 hb1; have l1 := r1.lt)
    | (replace r2 := r2; refine wpList_alloc_arr rfl rfl hz.out ?_; intro g3 w3 hg3 r3 hb3; replace r1 := r1.bel hb3; replace r2 := r2.bel hb3)
    | (refine wpList_alloc_arr rfl rfl hz.out ?_; intro g2 w2 hg2 r2 hb2; replace r1 := r1.bel hb2; have l2 := r2.lt))
  have hb := Bel.trans _ _ _ (Bel.trans _ _ _ hb1 hb2) hb3
  have HB := Lib.hid hb
  rw [HZ.out, ← pw_zero b] at r3
  rw [HZ.out] at r2
  have hg23 : g2 < g3 := by omega
  have hwg : w.heap.size ≤ g2 := by have := hb1.size; omega
  have R2 := Lib.hid r2
  have R3 := Lib.hid r3
  clear hb hb1 hb2 hb3 r1 r2 r3 l1 l2
  go_loopw [8] (fun i wr => ∃ j : Nat, i = .int .i64 j ∧ j ≤ 64 ∧ Row wr g3 27 (u32s (pw b j)) ∧ Row wr g2 27 (u32s (List.replicate 64 0)) ∧ Below w.heap.size w wr) (fun i _ => 64 - (intOf i).toNat)
  case atStart => exact ⟨0, rfl, by omega, R3.out, R2.out, HB.out⟩
  case round =>
    clear R2 R3 HB
    obtain ⟨j, rfl, hj, r3, r2, hb⟩ := hrel
    have HB := Lib.hid hb
    have R2 := Lib.hid r2
    have R3 := Lib.hid r3
    clear r2 r3 hb
    by_cases hlt : j < 64
    · have hidx := idx_b b hb j hlt
      rw [← HB0.out] at hidx
      have hcell := R3.out.w32 (i := j / 4) (by rw [pw_len]; omega)
      obtain ⟨x, hx⟩ : ∃ x, (pw b j).getD (j / 4) 0 = x := ⟨_, rfl⟩
      obtain ⟨y, hy⟩ : ∃ y, b.getD j 0 = y := ⟨_, rfl⟩
      rw [hx] at hcell
      simp only [hy] at hidx
      have HX := Lib.hid hx
      have HY := Lib.hid hy
      clear hx hy
      go_wp2_with (first
        | (refine wpList_store_cell (v := .int .u32 (wv (x <<< 8 ||| y.toUInt32))) rfl rfl rfl rfl rfl R3.out u32_one (by rw [u32s_size, pw_len]; omega) ?_; intro w4 r4 hu4))
      refine ⟨⟨j + 1, by go_num, by omega, ?_, R2.out.upd hu4 (by omega), below_upd HB.out hu4 (by omega)⟩, by simp [intOf]; omega⟩
      rw [u32s_set, ← HX.out, ← HY.out] at r4
      rw [pw_succ b j (by omega) hlt]
      simpa [show j / 4 < (pw b j).length by rw [pw_len]; omega, show j < b.length by omega] using r4
    · obtain rfl : j = 64 := by omega
      go_wp2
      go_loopw [6] (fun i wr2 => ∃ j : Nat, i = .int .i64 (j + 16 : Nat) ∧ j ≤ 48 ∧ Row wr2 g3 27 (u32s (spr (pw b 64) j)) ∧ Row wr2 g2 27 (u32s (List.replicate 64 0)) ∧ Below w.heap.size w wr2) (fun i _ => 64 - (intOf i).toNat)
      case atStart => exact ⟨0, rfl, by omega, R3.out, R2.out, HB.out⟩
      case round =>
        rename_i wr2
        clear R2 R3 HB hj hlt
        obtain ⟨j, rfl, hj, r3, r2, hb⟩ := hrel
        have HB := Lib.hid hb
        have R2 := Lib.hid r2
        have R3 := Lib.hid r3
        clear r2 r3 hb
        by_cases hlt : j < 48
        · have hlt2 : j + 16 < 64 := by omega
          go_wp2
          obtain ⟨x0, hx0⟩ : ∃ x, (spr (pw b 64) j).getD j 0 = x := ⟨_, rfl⟩
          obtain ⟨x1, hx1⟩ : ∃ x, (spr (pw b 64) j).getD (j + 1) 0 = x := ⟨_, rfl⟩
          obtain ⟨x9, hx9⟩ : ∃ x, (spr (pw b 64) j).getD (j + 9) 0 = x := ⟨_, rfl⟩
          obtain ⟨x14, hx14⟩ : ∃ x, (spr (pw b 64) j).getD (j + 14) 0 = x := ⟨_, rfl⟩
          have hL : (spr (pw b 64) j).length = 64 := by rw [spr_len, pw_len]
          have HX0 := Lib.hid hx0
          have HX1 := Lib.hid hx1
          have HX9 := Lib.hid hx9
          have HX14 := Lib.hid hx14
          have HL := Lib.hid hL
          have hv0 := wrap_small (n := (j : Int)) (by omega) (by omega)
          have hz0 : (j : Int) < 64 := by omega
          have hv1 : IntKind.i64.wrap ((j : Int) + 16 - 15) = (j : Int) + 1 := by rw [wrap_small (by omega) (by omega)]; omega
          have ht1 : ((j : Int) + 1).toNat = j + 1 := by omega
          have hp1 : 0 ≤ (j : Int) + 1 := by omega
          have hz1 : (j : Int) + 1 < 64 := by omega
          have hv9 : IntKind.i64.wrap ((j : Int) + 16 - 7) = (j : Int) + 9 := by rw [wrap_small (by omega) (by omega)]; omega
          have ht9 : ((j : Int) + 9).toNat = j + 9 := by omega
          have hp9 : 0 ≤ (j : Int) + 9 := by omega
          have hz9 : (j : Int) + 9 < 64 := by omega
          have hv14 : IntKind.i64.wrap ((j : Int) + 16 - 2) = (j : Int) + 14 := by rw [wrap_small (by omega) (by omega)]; omega
          have ht14 : ((j : Int) + 14).toNat = j + 14 := by omega
          have hp14 : 0 ≤ (j : Int) + 14 := by omega
          have hz14 : (j : Int) + 14 < 64 := by omega
          clear hx0 hx1 hx9 hx14 hL
          try simp only [Act.put, List.setIfInBounds_toArray, List.set_cons_succ, List.set_cons_zero, Nat.reduceAdd, Nat.zero_add]
          refine wp_region_T 23 [(9, MG.val (.int .u32 (wv (sg0 x1)))), (20, MG.val (.int .u32 (wv (sg1 x14))))] (by kernel_rfl) (by kernel_rfl) ?_
          intro ops F w0 pl hops hpl hw0 hF
          have hw0' := hw0.out
          subst hw0'
          simp only [List.take_succ_cons, List.take_zero, List.drop_succ_cons, List.drop_zero] at hF ⊢
          repeat (first | (refine wpL_pure (by first | rfl | (rw [hops.out]; rfl)) (by rw [hpl.out]; rfl) ?_ (fun wq hE hK => ?_) ?_; rotate_left; (clear hE hK; go_simp; rfl); (simp only [Act.put, List.setIfInBounds_toArray, List.set_cons_succ, List.set_cons_zero, Nat.reduceAdd, Nat.zero_add])) | (refine wpL_skip (by first | rfl | (rw [hops.out]; rfl)) ?_; simp only [Act.put, List.setIfInBounds_toArray, List.set_cons_succ, List.set_cons_zero, Nat.reduceAdd, Nat.zero_add]))
          refine wpL_pure (by first | rfl | (rw [hops.out]; rfl)) (by rw [hpl.out]; rfl) ?_ (fun wq hE hK => ?_) ?_
          rotate_left
          · have hc := (R3.out.bel hE).w32 (i := j) (by rw [HL.out]; omega)
            rw [HX0.out] at hc
            clear hE hK
            go_simp
            rfl
          simp only [Act.put, List.setIfInBounds_toArray, List.set_cons_succ, List.set_cons_zero, Nat.reduceAdd, Nat.zero_add]
          repeat (first | (refine wpL_pure (by first | rfl | (rw [hops.out]; rfl)) (by rw [hpl.out]; rfl) ?_ (fun wq hE hK => ?_) ?_; rotate_left; (clear hE hK; go_simp; rfl); (simp only [Act.put, List.setIfInBounds_toArray, List.set_cons_succ, List.set_cons_zero, Nat.reduceAdd, Nat.zero_add])) | (refine wpL_skip (by first | rfl | (rw [hops.out]; rfl)) ?_; simp only [Act.put, List.setIfInBounds_toArray, List.set_cons_succ, List.set_cons_zero, Nat.reduceAdd, Nat.zero_add]))
          refine wpL_pure (by first | rfl | (rw [hops.out]; rfl)) (by rw [hpl.out]; rfl) ?_ (fun wq hE hK => ?_) ?_
          rotate_left
          · have hc := (R3.out.bel hE).w32 (i := j + 1) (by rw [HL.out]; omega)
            rw [HX1.out] at hc
            clear hE hK
            go_simp
            rfl
          simp only [Act.put, List.setIfInBounds_toArray, List.set_cons_succ, List.set_cons_zero, Nat.reduceAdd, Nat.zero_add]
          repeat (first | (refine wpL_pure (by first | rfl | (rw [hops.out]; rfl)) (by rw [hpl.out]; rfl) ?_ (fun wq hE hK => ?_) ?_; rotate_left; (clear hE hK; go_simp; rfl); (simp only [Act.put, List.setIfInBounds_toArray, List.set_cons_succ, List.set_cons_zero, Nat.reduceAdd, Nat.zero_add])) | (refine wpL_skip (by first | rfl | (rw [hops.out]; rfl)) ?_; simp only [Act.put, List.setIfInBounds_toArray, List.set_cons_succ, List.set_cons_zero, Nat.reduceAdd, Nat.zero_add]))
          refine wpL_val (u := .int .u32 (wv (sg0 x1))) (by first | rfl | (rw [hops.out]; rfl)) (by rw [hpl.out]; rfl) (fun wq hE hK => ?_) ?_
          · unfold StepOk
            clear hK
            go_simp
            refine (moved_calls x1 7 18 3 7 18 3 _ (by decide)).mono ?_
            rintro e w' ⟨rfl, hb⟩
            exact ⟨rfl, hb⟩
          simp only [Act.put, List.setIfInBounds_toArray, List.set_cons_succ, List.set_cons_zero, Nat.reduceAdd, Nat.zero_add]
          repeat (first | (refine wpL_pure (by first | rfl | (rw [hops.out]; rfl)) (by rw [hpl.out]; rfl) ?_ (fun wq hE hK => ?_) ?_; rotate_left; (clear hE hK; go_simp; rfl); (simp only [Act.put, List.setIfInBounds_toArray, List.set_cons_succ, List.set_cons_zero, Nat.reduceAdd, Nat.zero_add])) | (refine wpL_skip (by first | rfl | (rw [hops.out]; rfl)) ?_; simp only [Act.put, List.setIfInBounds_toArray, List.set_cons_succ, List.set_cons_zero, Nat.reduceAdd, Nat.zero_add]))
          refine wpL_pure (by first | rfl | (rw [hops.out]; rfl)) (by rw [hpl.out]; rfl) ?_ (fun wq hE hK => ?_) ?_
          rotate_left
          · have hc := (R3.out.bel hE).w32 (i := j + 9) (by rw [HL.out]; omega)
            rw [HX9.out] at hc
            clear hE hK
            go_simp
            rfl
          simp only [Act.put, List.setIfInBounds_toArray, List.set_cons_succ, List.set_cons_zero, Nat.reduceAdd, Nat.zero_add]
          repeat (first | (refine wpL_pure (by first | rfl | (rw [hops.out]; rfl)) (by rw [hpl.out]; rfl) ?_ (fun wq hE hK => ?_) ?_; rotate_left; (clear hE hK; go_simp; rfl); (simp only [Act.put, List.setIfInBounds_toArray, List.set_cons_succ, List.set_cons_zero, Nat.reduceAdd, Nat.zero_add])) | (refine wpL_skip (by first | rfl | (rw [hops.out]; rfl)) ?_; simp only [Act.put, List.setIfInBounds_toArray, List.set_cons_succ, List.set_cons_zero, Nat.reduceAdd, Nat.zero_add]))
          refine wpL_pure (by first | rfl | (rw [hops.out]; rfl)) (by rw [hpl.out]; rfl) ?_ (fun wq hE hK => ?_) ?_
          rotate_left
          · have hc := (R3.out.bel hE).w32 (i := j + 14) (by rw [HL.out]; omega)
            rw [HX14.out] at hc
            clear hE hK
            go_simp
            rfl
          simp only [Act.put, List.setIfInBounds_toArray, List.set_cons_succ, List.set_cons_zero, Nat.reduceAdd, Nat.zero_add]
          repeat (first | (refine wpL_pure (by first | rfl | (rw [hops.out]; rfl)) (by rw [hpl.out]; rfl) ?_ (fun wq hE hK => ?_) ?_; rotate_left; (clear hE hK; go_simp; rfl); (simp only [Act.put, List.setIfInBounds_toArray, List.set_cons_succ, List.set_cons_zero, Nat.reduceAdd, Nat.zero_add])) | (refine wpL_skip (by first | rfl | (rw [hops.out]; rfl)) ?_; simp only [Act.put, List.setIfInBounds_toArray, List.set_cons_succ, List.set_cons_zero, Nat.reduceAdd, Nat.zero_add]))
          refine wpL_val (u := .int .u32 (wv (sg1 x14))) (by first | rfl | (rw [hops.out]; rfl)) (by rw [hpl.out]; rfl) (fun wq hE hK => ?_) ?_
          · unfold StepOk
            clear hK
            go_simp
            refine (moved_calls x14 17 19 10 17 19 10 _ (by decide)).mono ?_
            rintro e w' ⟨rfl, hb⟩
            exact ⟨rfl, hb⟩
          simp only [Act.put, List.setIfInBounds_toArray, List.set_cons_succ, List.set_cons_zero, Nat.reduceAdd, Nat.zero_add]
          repeat (first | (refine wpL_pure (by first | rfl | (rw [hops.out]; rfl)) (by rw [hpl.out]; rfl) ?_ (fun wq hE hK => ?_) ?_; rotate_left; (clear hE hK; go_simp; rfl); (simp only [Act.put, List.setIfInBounds_toArray, List.set_cons_succ, List.set_cons_zero, Nat.reduceAdd, Nat.zero_add])) | (refine wpL_skip (by first | rfl | (rw [hops.out]; rfl)) ?_; simp only [Act.put, List.setIfInBounds_toArray, List.set_cons_succ, List.set_cons_zero, Nat.reduceAdd, Nat.zero_add]))
          refine wpL_nil fun w' hE hK => hF.out _ _ ?_
          clear hK
          have r3 := R3.out.bel hE
          refine wpList_store_cell (v := .int .u32 (wv (x0 + sg0 x1 + x9 + sg1 x14))) rfl rfl rfl rfl rfl r3 u32_one (by rw [u32s_size, HL.out]; omega) ?_
          intro w5 r5 hu5
          go_wp2
          refine ⟨⟨j + 1, by push_cast; omega, by omega, ?_, (R2.out.bel hE).upd hu5 (by omega), below_upd (below_bel HB.out hE HB.out.size) hu5 (by omega)⟩, by simp [intOf]; omega⟩
          rw [u32s_set, ← HX0.out, ← HX1.out, ← HX9.out, ← HX14.out, show ((j : Int) + 16).toNat = 16 + j by omega] at r5
          have e : wnext (spr (pw b 64) j) (16 + j) = (spr (pw b 64) j).getD j 0 + sg0 ((spr (pw b 64) j).getD (j + 1) 0) + (spr (pw b 64) j).getD (j + 9) 0 + sg1 ((spr (pw b 64) j).getD (j + 14) 0) := by
            unfold wnext
            rw [show 16 + j - 16 = j by omega, show 16 + j - 15 = j + 1 by omega, show 16 + j - 7 = j + 9 by omega, show 16 + j - 2 = j + 14 by omega]
          rw [spr, e]
          exact r5
        · obtain rfl : j = 48 := by omega
          have hsz : (Tryd.prog.info? 27).map (·.size) = some (u32s (spr (pw b 64) 48)).size := (size_of w64_info).trans (by rw [u32s_size, spr_len, pw_len])
          go_wp2_with (first
            | (refine wpList_load_arr rfl rfl rfl R3.out w64_und hsz ?_)
            | (refine wpList_store_arr rfl rfl rfl rfl R2.out hsz (by rw [u32s_size, u32s_size, spr_len, pw_len]; rfl) (u32s_one _) ?_; intro w5 r5 hu5))
          exact ret_arr rfl rfl r5 w64_und hsz ⟨rfl, below_upd HB.out hu5 hwg⟩
theorem first_calls (w : World) : Calls Tryd.prog 8 #[] w fun e w' => e = .returned (.agg (u32s firsts)) ∧ Below w.heap.size w w' := by
  have hz := Lib.hid (zero_of_info w8_info).1
  go_enter Tryd.func8, Tryd.ntmps8
  go_wp2_with (first
    | (refine wpList_alloc_arr rfl rfl hz.out ?_; intro g2 w2 hg2 r2 hb2)
    | (refine wpList_store_arr (cells := u32s firsts) rfl rfl rfl rfl r2 (size_of w8_info) rfl (u32s_one _) ?_; intro w3 r3 hu3))
  exact ret_arr rfl rfl r3 w8_und (size_of w8_info) ⟨rfl, below_upd hb2 hu3 hg2⟩
end Go.Proofs.YthcoccoanpmhgaaDoor
