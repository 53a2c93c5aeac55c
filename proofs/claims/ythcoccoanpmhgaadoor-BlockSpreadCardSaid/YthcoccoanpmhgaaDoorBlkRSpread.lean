/- Layer 3, walked: the document's Spread. -/
import Derived.Test.YthcoccoanpmhgaaDoorBlkRef
namespace Go.Proofs.YthcoccoanpmhgaaDoor
open Go.RowKit
set_option linter.unusedVariables false
set_option linter.unusedSimpArgs false
set_option maxHeartbeats 2000000 in
set_option maxRecDepth 100000 in
theorem rspread_calls (b : List UInt8) (hb : b.length = 64) (w : World) :
    Calls Tryd.prog 11 #[.agg (b8s b)] w fun e w' => e = .returned (.agg (u32s (spread b))) ∧ Below w.heap.size w w' := by
  have hz := Lib.hid (zero_of_info w64_info).1
  obtain ⟨Z, hZ⟩ : ∃ Z, Z = u32s (List.replicate 64 0) := ⟨_, rfl⟩
  rw [← hZ] at hz
  obtain ⟨B, hB⟩ : ∃ B, B = b8s b := ⟨_, rfl⟩
  rw [← hB]
  have HB0 := Lib.hid hB
  have HZ := Lib.hid hZ
  clear hB hZ
  have hsz : (Tryd.prog.info? 27).map (·.size) = some (u32s (List.replicate 64 0)).size := (size_of w64_info).trans (by rw [u32s_size]; rfl)
  have HSZ := Lib.hid hsz
  clear hsz
  go_enter Tryd.func11, Tryd.ntmps11
  go_wp2_with (first
    | (refine wpList_box_arr rfl rfl rfl ?_; intro g1 w1 hg1 r1 hb1; have l1 := r1.lt)
    | (replace r2 := r2; refine wpList_alloc_arr rfl rfl hz.out ?_; intro g3 w3 hg3 r3 hb3; replace r1 := r1.bel hb3; replace r2 := r2.bel hb3)
    | (refine wpList_alloc_arr rfl rfl hz.out ?_; intro g2 w2 hg2 r2 hb2; replace r1 := r1.bel hb2; have l2 := r2.lt)
    | (rw [HZ.out] at r3 r2; refine wpList_store_arr (cells := u32s (List.replicate 64 0)) rfl rfl rfl rfl r3 HSZ.out rfl (u32s_one _) ?_; intro w4 r4 hu4))
  have hg12 : g1 < g2 := by omega
  have hg23 : g2 < g3 := by omega
  have hwg : w.heap.size ≤ g1 := hg1
  have hb := below_upd (Bel.trans _ _ _ (Bel.trans _ _ _ hb1 hb2) hb3) hu4 (by omega)
  have HB := Lib.hid hb
  have R1 := Lib.hid (r1.upd hu4 (by omega))
  have R2 := Lib.hid (r2.upd hu4 (by omega))
  rw [← pw2_zero b] at r4
  have R3 := Lib.hid r4
  rw [HB0.out] at R1
  clear hb hb1 hb2 hb3 r1 r2 r3 r4 l1 l2 hu4
  go_loopw [4] (fun i wr => ∃ j : Nat, i = .int .i64 j ∧ j ≤ 16 ∧ Row wr g3 27 (u32s (pw2 b j)) ∧ Row wr g2 27 (u32s (List.replicate 64 0)) ∧ Row wr g1 24 (b8s b) ∧ Below w.heap.size w wr) (fun i _ => 16 - (intOf i).toNat)
  case atStart => exact ⟨0, rfl, by omega, R3.out, R2.out, R1.out, HB.out⟩
  case round =>
    clear R1 R2 R3 HB
    obtain ⟨t, rfl, ht, r3, r2, r1, hb'⟩ := hrel
    have HB := Lib.hid hb'
    have R1 := Lib.hid r1
    have R2 := Lib.hid r2
    have R3 := Lib.hid r3
    clear r1 r2 r3 hb'
    by_cases hlt : t < 16
    · have hlt' : (t : Int) < 16 := by omega
      go_wp2
      obtain ⟨y0, hy0⟩ : ∃ x, b.getD (4 * t) 0 = x := ⟨_, rfl⟩
      obtain ⟨y1, hy1⟩ : ∃ x, b.getD (4 * t + 1) 0 = x := ⟨_, rfl⟩
      obtain ⟨y2, hy2⟩ : ∃ x, b.getD (4 * t + 2) 0 = x := ⟨_, rfl⟩
      obtain ⟨y3, hy3⟩ : ∃ x, b.getD (4 * t + 3) 0 = x := ⟨_, rfl⟩
      have HY0 := Lib.hid hy0
      have HY1 := Lib.hid hy1
      have HY2 := Lib.hid hy2
      have HY3 := Lib.hid hy3
      clear hy0 hy1 hy2 hy3
      have hv0 : IntKind.i64.wrap (4 * (t : Int)) = 4 * (t : Int) := wrap_small (by omega) (by omega)
      have ht0 : (4 * (t : Int)).toNat = 4 * t := by omega
      have hp0 : 0 ≤ 4 * (t : Int) := by omega
      have hq0 : 4 * (t : Int) < 64 := by omega
      have hv1 : IntKind.i64.wrap (4 * (t : Int) + 1) = 4 * (t : Int) + 1 := wrap_small (by omega) (by omega)
      have ht1 : (4 * (t : Int) + 1).toNat = 4 * t + 1 := by omega
      have hp1 : 0 ≤ 4 * (t : Int) + 1 := by omega
      have hq1 : 4 * (t : Int) + 1 < 64 := by omega
      have hv2 : IntKind.i64.wrap (4 * (t : Int) + 2) = 4 * (t : Int) + 2 := wrap_small (by omega) (by omega)
      have ht2 : (4 * (t : Int) + 2).toNat = 4 * t + 2 := by omega
      have hp2 : 0 ≤ 4 * (t : Int) + 2 := by omega
      have hq2 : 4 * (t : Int) + 2 < 64 := by omega
      have hv3 : IntKind.i64.wrap (4 * (t : Int) + 3) = 4 * (t : Int) + 3 := wrap_small (by omega) (by omega)
      have ht3 : (4 * (t : Int) + 3).toNat = 4 * t + 3 := by omega
      have hp3 : 0 ≤ 4 * (t : Int) + 3 := by omega
      have hq3 : 4 * (t : Int) + 3 < 64 := by omega
      have hlt64 : (t : Int) < 64 := by omega
      have HBR := Lib.hid (Below.refl wr.heap.size wr)
      try simp only [Act.put, List.setIfInBounds_toArray, List.set_cons_succ, List.set_cons_zero, Nat.reduceAdd, Nat.zero_add]
      refine wp_region_T 31 [] (by kernel_rfl) (by kernel_rfl) ?_
      intro ops F w0 pl hops hpl hw0 hF
      have hw0' := hw0.out
      subst hw0'
      simp only [List.take_succ_cons, List.take_zero, List.drop_succ_cons, List.drop_zero] at hF ⊢
      repeat (first | (refine wpL_pure (by first | rfl | (rw [hops.out]; rfl)) (by rw [hpl.out]; rfl) ?_ (fun wq hE hK => ?_) ?_; rotate_left; (clear hE hK; go_simp; rfl); (simp only [Act.put, List.setIfInBounds_toArray, List.set_cons_succ, List.set_cons_zero, Nat.reduceAdd, Nat.zero_add])) | (refine wpL_skip (by first | rfl | (rw [hops.out]; rfl)) ?_; simp only [Act.put, List.setIfInBounds_toArray, List.set_cons_succ, List.set_cons_zero, Nat.reduceAdd, Nat.zero_add]))
      refine wpL_pure (by first | rfl | (rw [hops.out]; rfl)) (by rw [hpl.out]; rfl) ?_ (fun wq hE hK => ?_) ?_
      rotate_left
      · have hc := (R1.out.bel (Bel.trans _ _ _ HBR.out hE)).w8 (i := 4 * t) (by omega)
        rw [HY0.out] at hc
        clear hE hK
        go_simp
        rfl
      simp only [Act.put, List.setIfInBounds_toArray, List.set_cons_succ, List.set_cons_zero, Nat.reduceAdd, Nat.zero_add]
      repeat (first | (refine wpL_pure (by first | rfl | (rw [hops.out]; rfl)) (by rw [hpl.out]; rfl) ?_ (fun wq hE hK => ?_) ?_; rotate_left; (clear hE hK; go_simp; rfl); (simp only [Act.put, List.setIfInBounds_toArray, List.set_cons_succ, List.set_cons_zero, Nat.reduceAdd, Nat.zero_add])) | (refine wpL_skip (by first | rfl | (rw [hops.out]; rfl)) ?_; simp only [Act.put, List.setIfInBounds_toArray, List.set_cons_succ, List.set_cons_zero, Nat.reduceAdd, Nat.zero_add]))
      refine wpL_pure (by first | rfl | (rw [hops.out]; rfl)) (by rw [hpl.out]; rfl) ?_ (fun wq hE hK => ?_) ?_
      rotate_left
      · have hc := (R1.out.bel (Bel.trans _ _ _ HBR.out hE)).w8 (i := 4 * t + 1) (by omega)
        rw [HY1.out] at hc
        clear hE hK
        go_simp
        rfl
      simp only [Act.put, List.setIfInBounds_toArray, List.set_cons_succ, List.set_cons_zero, Nat.reduceAdd, Nat.zero_add]
      repeat (first | (refine wpL_pure (by first | rfl | (rw [hops.out]; rfl)) (by rw [hpl.out]; rfl) ?_ (fun wq hE hK => ?_) ?_; rotate_left; (clear hE hK; go_simp; rfl); (simp only [Act.put, List.setIfInBounds_toArray, List.set_cons_succ, List.set_cons_zero, Nat.reduceAdd, Nat.zero_add])) | (refine wpL_skip (by first | rfl | (rw [hops.out]; rfl)) ?_; simp only [Act.put, List.setIfInBounds_toArray, List.set_cons_succ, List.set_cons_zero, Nat.reduceAdd, Nat.zero_add]))
      refine wpL_pure (by first | rfl | (rw [hops.out]; rfl)) (by rw [hpl.out]; rfl) ?_ (fun wq hE hK => ?_) ?_
      rotate_left
      · have hc := (R1.out.bel (Bel.trans _ _ _ HBR.out hE)).w8 (i := 4 * t + 2) (by omega)
        rw [HY2.out] at hc
        clear hE hK
        go_simp
        rfl
      simp only [Act.put, List.setIfInBounds_toArray, List.set_cons_succ, List.set_cons_zero, Nat.reduceAdd, Nat.zero_add]
      repeat (first | (refine wpL_pure (by first | rfl | (rw [hops.out]; rfl)) (by rw [hpl.out]; rfl) ?_ (fun wq hE hK => ?_) ?_; rotate_left; (clear hE hK; go_simp; rfl); (simp only [Act.put, List.setIfInBounds_toArray, List.set_cons_succ, List.set_cons_zero, Nat.reduceAdd, Nat.zero_add])) | (refine wpL_skip (by first | rfl | (rw [hops.out]; rfl)) ?_; simp only [Act.put, List.setIfInBounds_toArray, List.set_cons_succ, List.set_cons_zero, Nat.reduceAdd, Nat.zero_add]))
      refine wpL_pure (by first | rfl | (rw [hops.out]; rfl)) (by rw [hpl.out]; rfl) ?_ (fun wq hE hK => ?_) ?_
      rotate_left
      · have hc := (R1.out.bel (Bel.trans _ _ _ HBR.out hE)).w8 (i := 4 * t + 3) (by omega)
        rw [HY3.out] at hc
        clear hE hK
        go_simp
        rfl
      simp only [Act.put, List.setIfInBounds_toArray, List.set_cons_succ, List.set_cons_zero, Nat.reduceAdd, Nat.zero_add]
      repeat (first | (refine wpL_pure (by first | rfl | (rw [hops.out]; rfl)) (by rw [hpl.out]; rfl) ?_ (fun wq hE hK => ?_) ?_; rotate_left; (clear hE hK; go_simp; rfl); (simp only [Act.put, List.setIfInBounds_toArray, List.set_cons_succ, List.set_cons_zero, Nat.reduceAdd, Nat.zero_add])) | (refine wpL_skip (by first | rfl | (rw [hops.out]; rfl)) ?_; simp only [Act.put, List.setIfInBounds_toArray, List.set_cons_succ, List.set_cons_zero, Nat.reduceAdd, Nat.zero_add]))
      refine wpL_nil fun w' hE hK => hF.out _ _ ?_
      clear hK
      have r3 := R3.out.bel hE
      refine wpList_store_cell (v := .int .u32 (wv (y0.toUInt32 <<< 24 + y1.toUInt32 <<< 16 + y2.toUInt32 <<< 8 + y3.toUInt32))) rfl rfl rfl (by simp only [IntKind.wrap_u32, wv8m, wv_shl24, wv_shl16, wv_shl8, wv_add]; rfl) rfl r3 u32_one (by rw [u32s_size, pw2_len]; omega) ?_
      intro w5 r5 hu5
      go_wp2
      refine ⟨⟨t + 1, by go_num, by omega, ?_, (R2.out.bel hE).upd hu5 (by omega), (R1.out.bel hE).upd hu5 (by omega), below_upd (below_bel HB.out hE HB.out.size) hu5 (by omega)⟩, by simp [intOf]; omega⟩
      rw [pw2_succ, ← u32s_set, wd, HY0.out, HY1.out, HY2.out, HY3.out]
      simpa using r5
    · obtain rfl : t = 16 := by omega
      rw [pw2_done b hb] at R3
      clear R1
      go_wp2
      simp only [show ((16 : Nat) : Int) = 16 from rfl]
      go_loopw [5] (fun i wr2 => ∃ j : Nat, i = .int .i64 (j + 16 : Nat) ∧ j ≤ 48 ∧ Row wr2 g3 27 (u32s (spr (pw b 64) j)) ∧ Row wr2 g2 27 (u32s (List.replicate 64 0)) ∧ Below w.heap.size w wr2) (fun i _ => 64 - (intOf i).toNat)
      case atStart => exact ⟨0, rfl, by omega, R3.out, R2.out, HB.out⟩
      case round =>
        rename_i wr2
        clear R2 R3 HB hlt
        obtain ⟨j, rfl, hj, r3, r2, hb'⟩ := hrel
        have HB := Lib.hid hb'
        have R2 := Lib.hid r2
        have R3 := Lib.hid r3
        clear r2 r3 hb'
        by_cases hlt : j < 48
        · have hlt2 : j + 16 < 64 := by omega
          obtain ⟨x0, hx0⟩ : ∃ x, (spr (pw b 64) j).getD j 0 = x := ⟨_, rfl⟩
          obtain ⟨x1, hx1⟩ : ∃ x, (spr (pw b 64) j).getD (j + 1) 0 = x := ⟨_, rfl⟩
          obtain ⟨x9, hx9⟩ : ∃ x, (spr (pw b 64) j).getD (j + 9) 0 = x := ⟨_, rfl⟩
          obtain ⟨x14, hx14⟩ : ∃ x, (spr (pw b 64) j).getD (j + 14) 0 = x := ⟨_, rfl⟩
          have hL : (spr (pw b 64) j).length = 64 := by rw [spr_len, pw_len]
          have hc0 := R3.out.w32 (i := j) (by omega)
          rw [hx0] at hc0
          have HX0 := Lib.hid hx0
          have hc1 := R3.out.w32 (i := j + 1) (by omega)
          rw [hx1] at hc1
          have HX1 := Lib.hid hx1
          have hc9 := R3.out.w32 (i := j + 9) (by omega)
          rw [hx9] at hc9
          have HX9 := Lib.hid hx9
          have hc14 := R3.out.w32 (i := j + 14) (by omega)
          rw [hx14] at hc14
          have HX14 := Lib.hid hx14
          have HL := Lib.hid hL
          clear hx0 hx1 hx9 hx14 hL
          have hv0 := wrap_small (n := (j : Int)) (by omega) (by omega)
          have hz0 : (j : Int) < 64 := by omega
          have hv1 : IntKind.i64.wrap ((j : Int) + 16 - 15) = (j : Int) + 1 := by rw [wrap_small (by omega) (by omega)]; omega
          have ht1 : ((j : Int) + 1).toNat = j + 1 := by omega
          have hp1 : 0 ≤ (j : Int) + 1 := by omega
          have hz1 : (j : Int) + 1 < 64 := by omega
          have hv9 : IntKind.i64.wrap ((j : Int) + 16 - 7) = (j : Int) + 9 := by rw [wrap_small (by omega) (by omega)]; omega
          have ht9 : ((j : Int) + 9).toNat = j + 9 := by omega
          have hp9 : 0 ≤ (j : Int) + 9 := by omega
          have hz9 : (j : Int) + 9 < 64 := by omega
          have hv14 : IntKind.i64.wrap ((j : Int) + 16 - 2) = (j : Int) + 14 := by rw [wrap_small (by omega) (by omega)]; omega
          have ht14 : ((j : Int) + 14).toNat = j + 14 := by omega
          have hp14 : 0 ≤ (j : Int) + 14 := by omega
          have hz14 : (j : Int) + 14 < 64 := by omega
          go_wp2_with (first
            | (go_at_call 15; refine (rturned_calls _ _ _ (by decide)).mono ?_; rintro e w' ⟨rfl, rfl⟩)
            | (go_at_call 16; refine (rmoved_calls _ _ _ (by decide)).mono ?_; rintro e w' ⟨rfl, rfl⟩))
          clear hc0 hc1 hc9 hc14
          have hz16 : (j : Int) + 16 < 64 := by omega
          try simp only [Act.put, List.setIfInBounds_toArray, List.set_cons_succ, List.set_cons_zero, Nat.reduceAdd, Nat.zero_add]
          refine wp_region_T 15 [] (by kernel_rfl) (by kernel_rfl) ?_
          intro ops F w0 pl hops hpl hw0 hF
          have hw0' := hw0.out
          subst hw0'
          simp only [List.take_succ_cons, List.take_zero, List.drop_succ_cons, List.drop_zero] at hF ⊢
          repeat (first | (refine wpL_pure (by first | rfl | (rw [hops.out]; rfl)) (by rw [hpl.out]; rfl) ?_ (fun wq hE hK => ?_) ?_; rotate_left; (clear hE hK; go_simp; rfl); (simp only [Act.put, List.setIfInBounds_toArray, List.set_cons_succ, List.set_cons_zero, Nat.reduceAdd, Nat.zero_add])) | (refine wpL_skip (by first | rfl | (rw [hops.out]; rfl)) ?_; simp only [Act.put, List.setIfInBounds_toArray, List.set_cons_succ, List.set_cons_zero, Nat.reduceAdd, Nat.zero_add]))
          refine wpL_pure (by first | rfl | (rw [hops.out]; rfl)) (by rw [hpl.out]; rfl) ?_ (fun wq hE hK => ?_) ?_
          rotate_left
          · have hc := (R3.out.bel hE).w32 (i := j) (by rw [HL.out]; omega)
            rw [HX0.out] at hc
            clear hE hK
            go_simp
            rfl
          simp only [Act.put, List.setIfInBounds_toArray, List.set_cons_succ, List.set_cons_zero, Nat.reduceAdd, Nat.zero_add]
          repeat (first | (refine wpL_pure (by first | rfl | (rw [hops.out]; rfl)) (by rw [hpl.out]; rfl) ?_ (fun wq hE hK => ?_) ?_; rotate_left; (clear hE hK; go_simp; rfl); (simp only [Act.put, List.setIfInBounds_toArray, List.set_cons_succ, List.set_cons_zero, Nat.reduceAdd, Nat.zero_add])) | (refine wpL_skip (by first | rfl | (rw [hops.out]; rfl)) ?_; simp only [Act.put, List.setIfInBounds_toArray, List.set_cons_succ, List.set_cons_zero, Nat.reduceAdd, Nat.zero_add]))
          refine wpL_pure (by first | rfl | (rw [hops.out]; rfl)) (by rw [hpl.out]; rfl) ?_ (fun wq hE hK => ?_) ?_
          rotate_left
          · have hc := (R3.out.bel hE).w32 (i := j + 9) (by rw [HL.out]; omega)
            rw [HX9.out] at hc
            clear hE hK
            go_simp
            rfl
          simp only [Act.put, List.setIfInBounds_toArray, List.set_cons_succ, List.set_cons_zero, Nat.reduceAdd, Nat.zero_add]
          repeat (first | (refine wpL_pure (by first | rfl | (rw [hops.out]; rfl)) (by rw [hpl.out]; rfl) ?_ (fun wq hE hK => ?_) ?_; rotate_left; (clear hE hK; go_simp; rfl); (simp only [Act.put, List.setIfInBounds_toArray, List.set_cons_succ, List.set_cons_zero, Nat.reduceAdd, Nat.zero_add])) | (refine wpL_skip (by first | rfl | (rw [hops.out]; rfl)) ?_; simp only [Act.put, List.setIfInBounds_toArray, List.set_cons_succ, List.set_cons_zero, Nat.reduceAdd, Nat.zero_add]))
          refine wpL_nil fun w' hE hK => hF.out _ _ ?_
          clear hK
          have r3 := R3.out.bel hE
          refine wpList_store_cell (v := .int .u32 (wv (x0 + sg0 x1 + x9 + sg1 x14))) rfl rfl rfl (by simp only [IntKind.wrap_u32, wv_add]; rfl) rfl r3 u32_one (by rw [u32s_size, HL.out]; omega) ?_
          intro w5 r5 hu5
          go_wp2
          refine ⟨⟨j + 1, by first | (push_cast; omega) | go_num | (simp; omega), by omega, ?_, (R2.out.bel hE).upd hu5 (by omega), below_upd (below_bel HB.out hE HB.out.size) hu5 (by omega)⟩, by simp [intOf]; omega⟩
          rw [u32s_set, ← HX0.out, ← HX1.out, ← HX9.out, ← HX14.out, show ((j : Int) + 16).toNat = 16 + j by omega] at r5
          have e : wnext (spr (pw b 64) j) (16 + j) = (spr (pw b 64) j).getD j 0 + sg0 ((spr (pw b 64) j).getD (j + 1) 0) + (spr (pw b 64) j).getD (j + 9) 0 + sg1 ((spr (pw b 64) j).getD (j + 14) 0) := by
            unfold wnext
            rw [show 16 + j - 16 = j by omega, show 16 + j - 15 = j + 1 by omega, show 16 + j - 7 = j + 9 by omega, show 16 + j - 2 = j + 14 by omega]
          rw [spr, e]
          exact r5
        · obtain rfl : j = 48 := by omega
          have hsz : (Tryd.prog.info? 27).map (·.size) = some (u32s (spr (pw b 64) 48)).size := (size_of w64_info).trans (by rw [u32s_size, spr_len, pw_len])
          go_wp2_with (first
            | (refine wpList_load_arr rfl rfl rfl R3.out w64_und hsz ?_)
            | (refine wpList_store_arr rfl rfl rfl rfl R2.out hsz (by rw [u32s_size, u32s_size, spr_len, pw_len]; rfl) (u32s_one _) ?_; intro w5 r5 hu5))
          exact ret_arr rfl rfl r5 w64_und hsz ⟨rfl, below_upd HB.out hu5 (by omega)⟩
end Go.Proofs.YthcoccoanpmhgaaDoor
