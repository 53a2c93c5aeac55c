/- Layer 3, walked: the document's Mix. -/
import Derived.Test.YthcoccoanpmhgaaDoorBlkRSpread
namespace Go.Proofs.YthcoccoanpmhgaaDoor
open Go.RowKit
set_option linter.unusedVariables false
set_option linter.unusedSimpArgs false
set_option maxRecDepth 100000 in
set_option maxHeartbeats 1000000 in
theorem numbers_calls (w : World) : Calls Tryd.prog 18 #[] w fun e w' => ∃ g, e = .returned (.slice (some ⟨g, 0, none⟩) 64 64) ∧ Row w' g 22 (u32s nums) ∧ w.heap.size ≤ g ∧ Bel w w' := by
  go_enter Tryd.func18, Tryd.ntmps18
  go_wp2
  go_ret
  exact ⟨_, rfl, Row.new _ _ _, Nat.le_refl _, bel_alloc _ _⟩
theorem wv_not (a : UInt32) : bits .xor .u32 (if IntKind.u32.signed = true then -1 else IntKind.u32.max) (wv a) = wv (~~~a) := by
  have h : (if IntKind.u32.signed = true then (-1 : Int) else IntKind.u32.max) = wv 4294967295 := by decide
  rw [h, wv_xor]
  congr 1
theorem ch_eq (e f g : UInt32) : (e &&& f) ||| (~~~e &&& g) = chf e f g := by
  unfold chf
  apply UInt32.toBitVec_inj.1
  simp only [UInt32.toBitVec_or, UInt32.toBitVec_and, UInt32.toBitVec_not, UInt32.toBitVec_xor]
  ext i
  simp only [BitVec.getElem_or, BitVec.getElem_and, BitVec.getElem_not, BitVec.getElem_xor]
  cases e.toBitVec[i] <;> cases f.toBitVec[i] <;> cases g.toBitVec[i] <;> rfl
theorem maj_eq (a b c : UInt32) : ((a &&& b) ||| (a &&& c)) ||| (b &&& c) = maj a b c := by
  unfold maj
  apply UInt32.toBitVec_inj.1
  simp only [UInt32.toBitVec_or, UInt32.toBitVec_and, UInt32.toBitVec_xor]
  ext i
  simp only [BitVec.getElem_or, BitVec.getElem_and, BitVec.getElem_xor]
  cases a.toBitVec[i] <;> cases b.toBitVec[i] <;> cases c.toBitVec[i] <;> rfl
set_option maxHeartbeats 4000000 in
set_option maxRecDepth 100000 in
theorem rmix_calls (h : List UInt32) (b : List UInt8) (hh : h.length = 8) (hb : b.length = 64) (w : World) :
    Calls Tryd.prog 13 #[.agg (u32s h), .agg (b8s b)] w fun e w' => e = .returned (.agg (u32s (mix h b))) ∧ Below w.heap.size w w' := by
  have hz := Lib.hid (zero_of_info w64_info).1
  have hz8 := Lib.hid (zero_of_info w8_info).1
  obtain ⟨Z, hZ⟩ : ∃ Z, Z = u32s (List.replicate 64 0) := ⟨_, rfl⟩
  rw [← hZ] at hz
  obtain ⟨Z8, hZ8⟩ : ∃ Z, Z = u32s (List.replicate 8 0) := ⟨_, rfl⟩
  rw [← hZ8] at hz8
  obtain ⟨B, hB⟩ : ∃ B, B = b8s b := ⟨_, rfl⟩
  have hBs : B.size = 64 := by rw [hB, b8s_size, hb]
  obtain ⟨H, hH⟩ : ∃ H, H = u32s h := ⟨_, rfl⟩
  have hHs : H.size = 8 := by rw [hH, u32s_size, hh]
  rw [← hB, ← hH]
  have HBS := Lib.hid hBs
  have HHS := Lib.hid hHs
  have HB0 := Lib.hid hB
  have HH0 := Lib.hid hH
  have HZ := Lib.hid hZ
  have HZ8 := Lib.hid hZ8
  have hsz : (Tryd.prog.info? 27).map (·.size) = some (u32s (spread b)).size := (size_of w64_info).trans (by rw [u32s_size, rounds_len])
  have HSZ := Lib.hid hsz
  have hsz8 : (Tryd.prog.info? 23).map (·.size) = some H.size := (size_of w8_info).trans (by rw [hHs])
  have HSZ8 := Lib.hid hsz8
  have hone : H.all (·.oneCell') = true := by rw [hH]; exact u32s_one _
  have HONE := Lib.hid hone
  clear hBs hB hZ hZ8 hH hHs hsz hsz8 hone
  go_enter Tryd.func13, Tryd.ntmps13
  go_wp2_with (first
    | (replace r2 := r2; refine wpList_box_arr rfl rfl rfl ?_; intro g3 w3 hg3 r3 hb3; replace r2 := r2.bel hb3; have l3 := r3.lt)
    | (refine wpList_box_arr rfl rfl rfl ?_; intro g2 w2 hg2 r2 hb2; have l2 := r2.lt)
    | (replace r4 := r4; refine wpList_alloc_arr rfl rfl hz8.out ?_; intro g7 w9 hg7 r7 hb9; have p2 := r2.lt; have p4 := r4.lt; have p5 := r5.lt; have p6 := r6.lt; replace r2 := r2.bel hb9; replace r4 := r4.bel hb9; replace r5 := r5.bel hb9; replace r6 := r6.bel hb9)
    | (refine wpList_alloc_arr rfl rfl hz8.out ?_; intro g4 w4 hg4 r4 hb4; replace r2 := r2.bel hb4; replace r3 := r3.bel hb4; have l4 := r4.lt)
    | (refine wpList_load_arr rfl rfl rfl r3 b64_und ((size_of b64_info).trans (by rw [HBS.out])) ?_)
    | (refine wpList_load_arr rfl rfl rfl r2 w8_und HSZ8.out ?_)
    | (go_at_call 11; rw [HB0.out]; refine (rspread_calls b hb _).mono ?_; rintro e w5 ⟨rfl, hb5⟩; replace r2 := r2.bel hb5; replace r4 := r4.bel hb5)
    | (refine wpList_alloc_arr rfl rfl hz.out ?_; intro g5 w6 hg5 r5 hb6; rw [HZ.out] at r5; have q2 := r2.lt; have q4 := r4.lt; replace r2 := r2.bel hb6; replace r4 := r4.bel hb6; have l5 := r5.lt)
    | (refine wpList_store_arr rfl rfl rfl rfl r5 HSZ.out (by rw [u32s_size, u32s_size, rounds_len]; rfl) (u32s_one _) ?_; intro w7 r5 hu7; replace r2 := r2.upd hu7 (by omega); replace r4 := r4.upd hu7 (by omega))
    | (go_at_call 18; refine (numbers_calls _).mono ?_; rintro e w8 ⟨g6, rfl, r6, hg6, hb8⟩; replace r2 := r2.bel hb8; replace r4 := r4.bel hb8; replace r5 := r5.bel hb8; have l6 := r6.lt)
    | (refine wpList_store_arr rfl rfl rfl rfl r7 HSZ8.out (by rw [HZ8.out, HHS.out]; rfl) HONE.out ?_; intro w10 r7 hu10))
  have hwg : w.heap.size ≤ g2 := hg2
  have hwg4 : w.heap.size ≤ g4 := by omega
  have hb10 := below_upd (Bel.trans _ _ _ (Bel.trans _ _ _ hb2 hb3) (Bel.trans _ _ _ hb4 (Bel.trans _ _ _ hb5 hb6))) hu7 (by omega)
  have hb10 := below_upd (below_bel (below_bel hb10 hb8 hb10.size) hb9 (Nat.le_trans hb10.size hb8.size)) hu10 (by omega)
  have HB := Lib.hid hb10
  have R2 := Lib.hid (r2.upd hu10 (by omega))
  have R4 := Lib.hid (r4.upd hu10 (by omega))
  have R5 := Lib.hid (r5.upd hu10 (by omega))
  have R6 := Lib.hid (r6.upd hu10 (by omega))
  rw [HH0.out] at r7
  have hr7 : Row w10 g7 23 (u32s (stOf h).list) := by
    have e : (stOf h).list = h := by
      match h, hh with
      | [_, _, _, _, _, _, _, _], _ => rfl
    rw [e]; exact r7
  have R7 := Lib.hid hr7
  clear hb10 hb2 hb3 hb4 hb5 hb6 hu7 hb8 hb9 hu10 r2 r3 r4 r5 r6 r7 hr7 l2 l3 l4 l5 l6 q2 q4
  go_loopw [8] (fun i wr => ∃ (t : Nat), i = .int .i64 t ∧ t ≤ 64 ∧ Row wr g7 23 (u32s (rounds b (stOf h) t).list) ∧ Row wr g2 23 H ∧ Row wr g4 23 Z8 ∧ Row wr g5 27 (u32s (spread b)) ∧ Row wr g6 22 (u32s nums) ∧ Below w.heap.size w wr) (fun i _ => 64 - (intOf i).toNat)
  case atStart => exact ⟨0, rfl, by omega, R7.out, R2.out, R4.out, R5.out, R6.out, HB.out⟩
  case round =>
    clear R2 R4 R5 R6 R7 HB
    obtain ⟨t, rfl, ht, r7, r2, r4, r5, r6, hbr⟩ := hrel
    obtain ⟨s, hs⟩ : ∃ s, rounds b (stOf h) t = s := ⟨_, rfl⟩
    rw [hs] at r7
    have HS := Lib.hid hs
    have HB := Lib.hid hbr
    have R2 := Lib.hid r2
    have R4 := Lib.hid r4
    have R5 := Lib.hid r5
    have R6 := Lib.hid r6
    by_cases hlt : t < 64
    · obtain ⟨a1, b1, c1, d1, e1, f1, g1, z1⟩ := s
      have R7 : Hid (Row wr g7 23 (u32s [a1, b1, c1, d1, e1, f1, g1, z1])) := Lib.hid r7
      clear hs hbr r2 r4 r5 r6 r7
      obtain ⟨n, hn⟩ : ∃ n, nums.getD t 0 = n := ⟨_, rfl⟩
      obtain ⟨x, hx⟩ : ∃ n, (spread b).getD t 0 = n := ⟨_, rfl⟩
      have HNN := Lib.hid hn
      have HX := Lib.hid hx
      have hlt' : (t : Int) < 64 := by omega
      clear hn hx
      have hc4 : wr.cell? ⟨g7, 4, none⟩ = some (.int .u32 (wv e1)) := R7.out.w32 (i := 4) (by simp)
      have hc0 : wr.cell? ⟨g7, 0, none⟩ = some (.int .u32 (wv a1)) := R7.out.w32 (i := 0) (by simp)
      go_wp2
      clear hc4 hc0
      have HBR := Lib.hid (Below.refl wr.heap.size wr)
      try simp only [Act.put, List.setIfInBounds_toArray, List.set_cons_succ, List.set_cons_zero, Nat.reduceAdd, Nat.zero_add]
      refine wp_region_A [(3, MG.val (.int .u32 (wv (rotr e1 6)))), (5, MG.val (.int .u32 (wv (rotr e1 11)))), (8, MG.val (.int .u32 (wv (rotr e1 25))))] (by kernel_rfl) (by kernel_rfl) ?_
      intro ops F w0 pl hops hpl hw0 hF
      have hw0' := hw0.out
      subst hw0'
      repeat (first | (refine wpL_pure (by first | rfl | (rw [hops.out]; rfl)) (by rw [hpl.out]; rfl) ?_ (fun wq hE hK => ?_) ?_; rotate_left; (clear hE hK; go_simp; rfl); (simp only [Act.put, List.setIfInBounds_toArray, List.set_cons_succ, List.set_cons_zero, Nat.reduceAdd, Nat.zero_add])) | (refine wpL_skip (by first | rfl | (rw [hops.out]; rfl)) ?_; simp only [Act.put, List.setIfInBounds_toArray, List.set_cons_succ, List.set_cons_zero, Nat.reduceAdd, Nat.zero_add]))
      refine wpL_pure (by first | rfl | (rw [hops.out]; rfl)) (by rw [hpl.out]; rfl) ?_ (fun wq hE hK => ?_) ?_
      rotate_left
      · have hc : wq.cell? ⟨g7, 7, none⟩ = some (.int .u32 (wv z1)) := (R7.out.bel (Bel.trans _ _ _ HBR.out hE)).w32 (i := 7) (by simp)
        clear hE hK
        go_simp
        rfl
      simp only [Act.put, List.setIfInBounds_toArray, List.set_cons_succ, List.set_cons_zero, Nat.reduceAdd, Nat.zero_add]
      repeat (first | (refine wpL_pure (by first | rfl | (rw [hops.out]; rfl)) (by rw [hpl.out]; rfl) ?_ (fun wq hE hK => ?_) ?_; rotate_left; (clear hE hK; go_simp; rfl); (simp only [Act.put, List.setIfInBounds_toArray, List.set_cons_succ, List.set_cons_zero, Nat.reduceAdd, Nat.zero_add])) | (refine wpL_skip (by first | rfl | (rw [hops.out]; rfl)) ?_; simp only [Act.put, List.setIfInBounds_toArray, List.set_cons_succ, List.set_cons_zero, Nat.reduceAdd, Nat.zero_add]))
      refine wpL_val (u := .int .u32 (wv (rotr e1 6))) (by first | rfl | (rw [hops.out]; rfl)) (by rw [hpl.out]; rfl) (fun wq hE hK => ?_) ?_
      · unfold StepOk
        clear hK
        go_simp
        refine (rturned_calls e1 _ _ (by decide)).mono ?_
        rintro e w' ⟨rfl, rfl⟩
        exact ⟨rfl, Below.refl _ _⟩
      simp only [Act.put, List.setIfInBounds_toArray, List.set_cons_succ, List.set_cons_zero, Nat.reduceAdd, Nat.zero_add]
      repeat (first | (refine wpL_pure (by first | rfl | (rw [hops.out]; rfl)) (by rw [hpl.out]; rfl) ?_ (fun wq hE hK => ?_) ?_; rotate_left; (clear hE hK; go_simp; rfl); (simp only [Act.put, List.setIfInBounds_toArray, List.set_cons_succ, List.set_cons_zero, Nat.reduceAdd, Nat.zero_add])) | (refine wpL_skip (by first | rfl | (rw [hops.out]; rfl)) ?_; simp only [Act.put, List.setIfInBounds_toArray, List.set_cons_succ, List.set_cons_zero, Nat.reduceAdd, Nat.zero_add]))
      refine wpL_val (u := .int .u32 (wv (rotr e1 11))) (by first | rfl | (rw [hops.out]; rfl)) (by rw [hpl.out]; rfl) (fun wq hE hK => ?_) ?_
      · unfold StepOk
        clear hK
        go_simp
        refine (rturned_calls e1 _ _ (by decide)).mono ?_
        rintro e w' ⟨rfl, rfl⟩
        exact ⟨rfl, Below.refl _ _⟩
      simp only [Act.put, List.setIfInBounds_toArray, List.set_cons_succ, List.set_cons_zero, Nat.reduceAdd, Nat.zero_add]
      repeat (first | (refine wpL_pure (by first | rfl | (rw [hops.out]; rfl)) (by rw [hpl.out]; rfl) ?_ (fun wq hE hK => ?_) ?_; rotate_left; (clear hE hK; go_simp; rfl); (simp only [Act.put, List.setIfInBounds_toArray, List.set_cons_succ, List.set_cons_zero, Nat.reduceAdd, Nat.zero_add])) | (refine wpL_skip (by first | rfl | (rw [hops.out]; rfl)) ?_; simp only [Act.put, List.setIfInBounds_toArray, List.set_cons_succ, List.set_cons_zero, Nat.reduceAdd, Nat.zero_add]))
      refine wpL_val (u := .int .u32 (wv (rotr e1 25))) (by first | rfl | (rw [hops.out]; rfl)) (by rw [hpl.out]; rfl) (fun wq hE hK => ?_) ?_
      · unfold StepOk
        clear hK
        go_simp
        refine (rturned_calls e1 _ _ (by decide)).mono ?_
        rintro e w' ⟨rfl, rfl⟩
        exact ⟨rfl, Below.refl _ _⟩
      simp only [Act.put, List.setIfInBounds_toArray, List.set_cons_succ, List.set_cons_zero, Nat.reduceAdd, Nat.zero_add]
      repeat (first | (refine wpL_pure (by first | rfl | (rw [hops.out]; rfl)) (by rw [hpl.out]; rfl) ?_ (fun wq hE hK => ?_) ?_; rotate_left; (clear hE hK; go_simp; rfl); (simp only [Act.put, List.setIfInBounds_toArray, List.set_cons_succ, List.set_cons_zero, Nat.reduceAdd, Nat.zero_add])) | (refine wpL_skip (by first | rfl | (rw [hops.out]; rfl)) ?_; simp only [Act.put, List.setIfInBounds_toArray, List.set_cons_succ, List.set_cons_zero, Nat.reduceAdd, Nat.zero_add]))
      refine wpL_pure (by first | rfl | (rw [hops.out]; rfl)) (by rw [hpl.out]; rfl) ?_ (fun wq hE hK => ?_) ?_
      rotate_left
      · have hc : wq.cell? ⟨g7, 5, none⟩ = some (.int .u32 (wv f1)) := (R7.out.bel (Bel.trans _ _ _ HBR.out hE)).w32 (i := 5) (by simp)
        clear hE hK
        go_simp
        rfl
      simp only [Act.put, List.setIfInBounds_toArray, List.set_cons_succ, List.set_cons_zero, Nat.reduceAdd, Nat.zero_add]
      repeat (first | (refine wpL_pure (by first | rfl | (rw [hops.out]; rfl)) (by rw [hpl.out]; rfl) ?_ (fun wq hE hK => ?_) ?_; rotate_left; (clear hE hK; go_simp; rfl); (simp only [Act.put, List.setIfInBounds_toArray, List.set_cons_succ, List.set_cons_zero, Nat.reduceAdd, Nat.zero_add])) | (refine wpL_skip (by first | rfl | (rw [hops.out]; rfl)) ?_; simp only [Act.put, List.setIfInBounds_toArray, List.set_cons_succ, List.set_cons_zero, Nat.reduceAdd, Nat.zero_add]))
      refine wpL_pure (by first | rfl | (rw [hops.out]; rfl)) (by rw [hpl.out]; rfl) ?_ (fun wq hE hK => ?_) ?_
      rotate_left
      · have hc : wq.cell? ⟨g7, 6, none⟩ = some (.int .u32 (wv g1)) := (R7.out.bel (Bel.trans _ _ _ HBR.out hE)).w32 (i := 6) (by simp)
        clear hE hK
        go_simp
        rfl
      simp only [Act.put, List.setIfInBounds_toArray, List.set_cons_succ, List.set_cons_zero, Nat.reduceAdd, Nat.zero_add]
      repeat (first | (refine wpL_pure (by first | rfl | (rw [hops.out]; rfl)) (by rw [hpl.out]; rfl) ?_ (fun wq hE hK => ?_) ?_; rotate_left; (clear hE hK; go_simp; rfl); (simp only [Act.put, List.setIfInBounds_toArray, List.set_cons_succ, List.set_cons_zero, Nat.reduceAdd, Nat.zero_add])) | (refine wpL_skip (by first | rfl | (rw [hops.out]; rfl)) ?_; simp only [Act.put, List.setIfInBounds_toArray, List.set_cons_succ, List.set_cons_zero, Nat.reduceAdd, Nat.zero_add]))
      refine wpL_pure (by first | rfl | (rw [hops.out]; rfl)) (by rw [hpl.out]; rfl) ?_ (fun wq hE hK => ?_) ?_
      rotate_left
      · have hc := (R6.out.bel (Bel.trans _ _ _ HBR.out hE)).w32 (i := t) (by rw [nums_len]; omega)
        rw [HNN.out] at hc
        clear hE hK
        go_simp
        rfl
      simp only [Act.put, List.setIfInBounds_toArray, List.set_cons_succ, List.set_cons_zero, Nat.reduceAdd, Nat.zero_add]
      repeat (first | (refine wpL_pure (by first | rfl | (rw [hops.out]; rfl)) (by rw [hpl.out]; rfl) ?_ (fun wq hE hK => ?_) ?_; rotate_left; (clear hE hK; go_simp; rfl); (simp only [Act.put, List.setIfInBounds_toArray, List.set_cons_succ, List.set_cons_zero, Nat.reduceAdd, Nat.zero_add])) | (refine wpL_skip (by first | rfl | (rw [hops.out]; rfl)) ?_; simp only [Act.put, List.setIfInBounds_toArray, List.set_cons_succ, List.set_cons_zero, Nat.reduceAdd, Nat.zero_add]))
      refine wpL_pure (by first | rfl | (rw [hops.out]; rfl)) (by rw [hpl.out]; rfl) ?_ (fun wq hE hK => ?_) ?_
      rotate_left
      · have hc := (R5.out.bel (Bel.trans _ _ _ HBR.out hE)).w32 (i := t) (by rw [rounds_len]; omega)
        rw [HX.out] at hc
        clear hE hK
        go_simp
        rfl
      simp only [Act.put, List.setIfInBounds_toArray, List.set_cons_succ, List.set_cons_zero, Nat.reduceAdd, Nat.zero_add]
      repeat (first | (refine wpL_pure (by first | rfl | (rw [hops.out]; rfl)) (by rw [hpl.out]; rfl) ?_ (fun wq hE hK => ?_) ?_; rotate_left; (clear hE hK; go_simp; rfl); (simp only [Act.put, List.setIfInBounds_toArray, List.set_cons_succ, List.set_cons_zero, Nat.reduceAdd, Nat.zero_add])) | (refine wpL_skip (by first | rfl | (rw [hops.out]; rfl)) ?_; simp only [Act.put, List.setIfInBounds_toArray, List.set_cons_succ, List.set_cons_zero, Nat.reduceAdd, Nat.zero_add]))
      refine wpL_nil fun w' hE hK => hF.out _ _ ?_
      clear hK
      have HBR := Lib.hid (Bel.trans _ _ _ HBR.out hE)
      clear hE
      simp only [IntKind.wrap_u32, wv_not, wv_xor, wv_and, wv_or, wv_add, ch_eq]
      obtain ⟨p, hp⟩ : ∃ p, z1 + (rotr e1 6 ^^^ rotr e1 11 ^^^ rotr e1 25) + chf e1 f1 g1 + n + x = p := ⟨_, rfl⟩
      rw [hp]
      have HP := Lib.hid hp
      clear hp
      go_wp2
      try simp only [Act.put, List.setIfInBounds_toArray, List.set_cons_succ, List.set_cons_zero, Nat.reduceAdd, Nat.zero_add]
      refine wp_region_A [(1, MG.val (.int .u32 (wv (rotr a1 2)))), (3, MG.val (.int .u32 (wv (rotr a1 13)))), (6, MG.val (.int .u32 (wv (rotr a1 22))))] (by kernel_rfl) (by kernel_rfl) ?_
      intro ops F w0 pl hops hpl hw0 hF
      have hw0' := hw0.out
      subst hw0'
      repeat (first | (refine wpL_pure (by first | rfl | (rw [hops.out]; rfl)) (by rw [hpl.out]; rfl) ?_ (fun wq hE hK => ?_) ?_; rotate_left; (clear hE hK; go_simp; rfl); (simp only [Act.put, List.setIfInBounds_toArray, List.set_cons_succ, List.set_cons_zero, Nat.reduceAdd, Nat.zero_add])) | (refine wpL_skip (by first | rfl | (rw [hops.out]; rfl)) ?_; simp only [Act.put, List.setIfInBounds_toArray, List.set_cons_succ, List.set_cons_zero, Nat.reduceAdd, Nat.zero_add]))
      refine wpL_val (u := .int .u32 (wv (rotr a1 2))) (by first | rfl | (rw [hops.out]; rfl)) (by rw [hpl.out]; rfl) (fun wq hE hK => ?_) ?_
      · unfold StepOk
        clear hK
        go_simp
        refine (rturned_calls a1 _ _ (by decide)).mono ?_
        rintro e w' ⟨rfl, rfl⟩
        exact ⟨rfl, Below.refl _ _⟩
      simp only [Act.put, List.setIfInBounds_toArray, List.set_cons_succ, List.set_cons_zero, Nat.reduceAdd, Nat.zero_add]
      repeat (first | (refine wpL_pure (by first | rfl | (rw [hops.out]; rfl)) (by rw [hpl.out]; rfl) ?_ (fun wq hE hK => ?_) ?_; rotate_left; (clear hE hK; go_simp; rfl); (simp only [Act.put, List.setIfInBounds_toArray, List.set_cons_succ, List.set_cons_zero, Nat.reduceAdd, Nat.zero_add])) | (refine wpL_skip (by first | rfl | (rw [hops.out]; rfl)) ?_; simp only [Act.put, List.setIfInBounds_toArray, List.set_cons_succ, List.set_cons_zero, Nat.reduceAdd, Nat.zero_add]))
      refine wpL_val (u := .int .u32 (wv (rotr a1 13))) (by first | rfl | (rw [hops.out]; rfl)) (by rw [hpl.out]; rfl) (fun wq hE hK => ?_) ?_
      · unfold StepOk
        clear hK
        go_simp
        refine (rturned_calls a1 _ _ (by decide)).mono ?_
        rintro e w' ⟨rfl, rfl⟩
        exact ⟨rfl, Below.refl _ _⟩
      simp only [Act.put, List.setIfInBounds_toArray, List.set_cons_succ, List.set_cons_zero, Nat.reduceAdd, Nat.zero_add]
      repeat (first | (refine wpL_pure (by first | rfl | (rw [hops.out]; rfl)) (by rw [hpl.out]; rfl) ?_ (fun wq hE hK => ?_) ?_; rotate_left; (clear hE hK; go_simp; rfl); (simp only [Act.put, List.setIfInBounds_toArray, List.set_cons_succ, List.set_cons_zero, Nat.reduceAdd, Nat.zero_add])) | (refine wpL_skip (by first | rfl | (rw [hops.out]; rfl)) ?_; simp only [Act.put, List.setIfInBounds_toArray, List.set_cons_succ, List.set_cons_zero, Nat.reduceAdd, Nat.zero_add]))
      refine wpL_val (u := .int .u32 (wv (rotr a1 22))) (by first | rfl | (rw [hops.out]; rfl)) (by rw [hpl.out]; rfl) (fun wq hE hK => ?_) ?_
      · unfold StepOk
        clear hK
        go_simp
        refine (rturned_calls a1 _ _ (by decide)).mono ?_
        rintro e w' ⟨rfl, rfl⟩
        exact ⟨rfl, Below.refl _ _⟩
      simp only [Act.put, List.setIfInBounds_toArray, List.set_cons_succ, List.set_cons_zero, Nat.reduceAdd, Nat.zero_add]
      repeat (first | (refine wpL_pure (by first | rfl | (rw [hops.out]; rfl)) (by rw [hpl.out]; rfl) ?_ (fun wq hE hK => ?_) ?_; rotate_left; (clear hE hK; go_simp; rfl); (simp only [Act.put, List.setIfInBounds_toArray, List.set_cons_succ, List.set_cons_zero, Nat.reduceAdd, Nat.zero_add])) | (refine wpL_skip (by first | rfl | (rw [hops.out]; rfl)) ?_; simp only [Act.put, List.setIfInBounds_toArray, List.set_cons_succ, List.set_cons_zero, Nat.reduceAdd, Nat.zero_add]))
      refine wpL_pure (by first | rfl | (rw [hops.out]; rfl)) (by rw [hpl.out]; rfl) ?_ (fun wq hE hK => ?_) ?_
      rotate_left
      · have hc : wq.cell? ⟨g7, 1, none⟩ = some (.int .u32 (wv b1)) := (R7.out.bel (Bel.trans _ _ _ HBR.out hE)).w32 (i := 1) (by simp)
        clear hE hK
        go_simp
        rfl
      simp only [Act.put, List.setIfInBounds_toArray, List.set_cons_succ, List.set_cons_zero, Nat.reduceAdd, Nat.zero_add]
      repeat (first | (refine wpL_pure (by first | rfl | (rw [hops.out]; rfl)) (by rw [hpl.out]; rfl) ?_ (fun wq hE hK => ?_) ?_; rotate_left; (clear hE hK; go_simp; rfl); (simp only [Act.put, List.setIfInBounds_toArray, List.set_cons_succ, List.set_cons_zero, Nat.reduceAdd, Nat.zero_add])) | (refine wpL_skip (by first | rfl | (rw [hops.out]; rfl)) ?_; simp only [Act.put, List.setIfInBounds_toArray, List.set_cons_succ, List.set_cons_zero, Nat.reduceAdd, Nat.zero_add]))
      refine wpL_pure (by first | rfl | (rw [hops.out]; rfl)) (by rw [hpl.out]; rfl) ?_ (fun wq hE hK => ?_) ?_
      rotate_left
      · have hc : wq.cell? ⟨g7, 2, none⟩ = some (.int .u32 (wv c1)) := (R7.out.bel (Bel.trans _ _ _ HBR.out hE)).w32 (i := 2) (by simp)
        clear hE hK
        go_simp
        rfl
      simp only [Act.put, List.setIfInBounds_toArray, List.set_cons_succ, List.set_cons_zero, Nat.reduceAdd, Nat.zero_add]
      repeat (first | (refine wpL_pure (by first | rfl | (rw [hops.out]; rfl)) (by rw [hpl.out]; rfl) ?_ (fun wq hE hK => ?_) ?_; rotate_left; (clear hE hK; go_simp; rfl); (simp only [Act.put, List.setIfInBounds_toArray, List.set_cons_succ, List.set_cons_zero, Nat.reduceAdd, Nat.zero_add])) | (refine wpL_skip (by first | rfl | (rw [hops.out]; rfl)) ?_; simp only [Act.put, List.setIfInBounds_toArray, List.set_cons_succ, List.set_cons_zero, Nat.reduceAdd, Nat.zero_add]))
      refine wpL_pure (by first | rfl | (rw [hops.out]; rfl)) (by rw [hpl.out]; rfl) ?_ (fun wq hE hK => ?_) ?_
      rotate_left
      · have hc : wq.cell? ⟨g7, 1, none⟩ = some (.int .u32 (wv b1)) := (R7.out.bel (Bel.trans _ _ _ HBR.out hE)).w32 (i := 1) (by simp)
        clear hE hK
        go_simp
        rfl
      simp only [Act.put, List.setIfInBounds_toArray, List.set_cons_succ, List.set_cons_zero, Nat.reduceAdd, Nat.zero_add]
      repeat (first | (refine wpL_pure (by first | rfl | (rw [hops.out]; rfl)) (by rw [hpl.out]; rfl) ?_ (fun wq hE hK => ?_) ?_; rotate_left; (clear hE hK; go_simp; rfl); (simp only [Act.put, List.setIfInBounds_toArray, List.set_cons_succ, List.set_cons_zero, Nat.reduceAdd, Nat.zero_add])) | (refine wpL_skip (by first | rfl | (rw [hops.out]; rfl)) ?_; simp only [Act.put, List.setIfInBounds_toArray, List.set_cons_succ, List.set_cons_zero, Nat.reduceAdd, Nat.zero_add]))
      refine wpL_pure (by first | rfl | (rw [hops.out]; rfl)) (by rw [hpl.out]; rfl) ?_ (fun wq hE hK => ?_) ?_
      rotate_left
      · have hc : wq.cell? ⟨g7, 2, none⟩ = some (.int .u32 (wv c1)) := (R7.out.bel (Bel.trans _ _ _ HBR.out hE)).w32 (i := 2) (by simp)
        clear hE hK
        go_simp
        rfl
      simp only [Act.put, List.setIfInBounds_toArray, List.set_cons_succ, List.set_cons_zero, Nat.reduceAdd, Nat.zero_add]
      repeat (first | (refine wpL_pure (by first | rfl | (rw [hops.out]; rfl)) (by rw [hpl.out]; rfl) ?_ (fun wq hE hK => ?_) ?_; rotate_left; (clear hE hK; go_simp; rfl); (simp only [Act.put, List.setIfInBounds_toArray, List.set_cons_succ, List.set_cons_zero, Nat.reduceAdd, Nat.zero_add])) | (refine wpL_skip (by first | rfl | (rw [hops.out]; rfl)) ?_; simp only [Act.put, List.setIfInBounds_toArray, List.set_cons_succ, List.set_cons_zero, Nat.reduceAdd, Nat.zero_add]))
      refine wpL_nil fun w' hE hK => hF.out _ _ ?_
      clear hK
      have HBR := Lib.hid (Bel.trans _ _ _ HBR.out hE)
      clear hE
      simp only [IntKind.wrap_u32, wv_xor, wv_and, wv_or, wv_add, maj_eq]
      obtain ⟨q, hq⟩ : ∃ q, (rotr a1 2 ^^^ rotr a1 13 ^^^ rotr a1 22) + maj a1 b1 c1 = q := ⟨_, rfl⟩
      rw [hq]
      have HQ := Lib.hid hq
      clear hq
      have R7 := Lib.hid (R7.out.bel HBR.out)
      have hc0 : _ = some (Value.int .u32 (wv a1)) := R7.out.w32 (i := 0) (by simp)
      have hc1 : _ = some (Value.int .u32 (wv b1)) := R7.out.w32 (i := 1) (by simp)
      have hc2 : _ = some (Value.int .u32 (wv c1)) := R7.out.w32 (i := 2) (by simp)
      have hc3 : _ = some (Value.int .u32 (wv d1)) := R7.out.w32 (i := 3) (by simp)
      have hc4 : _ = some (Value.int .u32 (wv e1)) := R7.out.w32 (i := 4) (by simp)
      have hc5 : _ = some (Value.int .u32 (wv f1)) := R7.out.w32 (i := 5) (by simp)
      have hc6 : _ = some (Value.int .u32 (wv g1)) := R7.out.w32 (i := 6) (by simp)
      go_wp2_with (first
        | (clear hc0 hc1 hc2 hc3 hc4 hc5 hc6; refine wpList_store_arr (cells := u32s [p + q, a1, b1, c1, d1 + p, e1, f1, g1]) rfl rfl rfl (by rfl) R7.out (size_of w8_info) rfl (u32s_one _) ?_; intro w11 r11 hu11))
      refine ⟨⟨t + 1, by go_num, by omega, ?_, (R2.out.bel HBR.out).upd hu11 (by omega), (R4.out.bel HBR.out).upd hu11 (by omega), (R5.out.bel HBR.out).upd hu11 (by omega), (R6.out.bel HBR.out).upd hu11 (by omega), below_upd (below_bel HB.out HBR.out HB.out.size) hu11 (by omega)⟩, by simp [intOf]; omega⟩
      rw [rounds, HS.out, HNN.out, HX.out]
      have e : (rnd ⟨a1, b1, c1, d1, e1, f1, g1, z1⟩ n x).list = [p + q, a1, b1, c1, d1 + p, e1, f1, g1] := by
        rw [← HP.out, ← HQ.out]; rfl
      rw [e]; exact r11
    · obtain rfl : t = 64 := by omega
      have hs8 : s.list.length = 8 := rfl
      obtain ⟨L, hL⟩ : ∃ L, s.list = L := ⟨_, rfl⟩
      rw [hL] at r7 hs8
      have hLL : (rounds b (stOf h) 64).list = L := by rw [hs, hL]
      have HLL := Lib.hid hLL
      have R7 := Lib.hid r7
      rw [HH0.out] at r2
      clear hs hL r7 hbr r4 r5 r6 HS hLL R5 R6
      have hszh : (Tryd.prog.info? 23).map (·.size) = some (u32s h).size := (size_of w8_info).trans (by rw [u32s_size, hh])
      have q2 := R2.out.lt
      have q4 := R4.out.lt
      have q7 := R7.out.lt
      rw [HH0.out] at R2
      go_wp2_with (first
        | (refine wpList_load_arr rfl rfl rfl r2 w8_und hszh ?_)
        | (refine wpList_alloc_arr rfl rfl hz8.out ?_; intro g9 w12 hg9 r9 hb12)
        | (refine wpList_store_arr rfl rfl rfl rfl r9 hszh (by rw [HZ8.out, u32s_size, u32s_size, hh]; rfl) (u32s_one _) ?_; intro w13 r13 hu13))
      have hb13 := below_upd (below_bel HB.out hb12 HB.out.size) hu13 (by have := HB.out.size; omega)
      have R2 := Lib.hid ((R2.out.bel hb12).upd hu13 (by omega))
      have R4 := Lib.hid ((R4.out.bel hb12).upd hu13 (by omega))
      have R7 := Lib.hid ((R7.out.bel hb12).upd hu13 (by omega))
      have hwg9 : w.heap.size ≤ g9 := by have := HB.out.size; omega
      have HB := Lib.hid hb13
      have R9 := Lib.hid r13
      clear hb13 hu13 hb12 r9 r2 r13
      try simp only [show ((64 : Nat) : Int) = 64 from rfl]
      go_loopw [14] (fun i wr2 => ∃ t : Nat, i = .int .i64 t ∧ t ≤ 8 ∧ Row wr2 g9 23 (u32s (acc h L t)) ∧ Row wr2 g2 23 (u32s h) ∧ Row wr2 g4 23 Z8 ∧ Row wr2 g7 23 (u32s L) ∧ Below w.heap.size w wr2) (fun i _ => 8 - (intOf i).toNat)
      case atStart => exact ⟨0, rfl, by omega, by rw [acc_zero h L hh]; exact R9.out, R2.out, R4.out, R7.out, HB.out⟩
      case round =>
        clear R2 R4 R7 R9 HB hlt
        obtain ⟨t, rfl, ht, r9, r2, r4, r7, hb'⟩ := hrel
        have R2 := Lib.hid r2
        have R4 := Lib.hid r4
        have R7 := Lib.hid r7
        have R9 := Lib.hid r9
        have HB := Lib.hid hb'
        clear r2 r4 r7 r9 hb'
        by_cases hlt : t < 8
        · have hlt' : (t : Int) < 8 := by omega
          obtain ⟨n, hn⟩ : ∃ n, L.getD t 0 = n := ⟨_, rfl⟩
          obtain ⟨x, hx⟩ : ∃ n, h.getD t 0 = n := ⟨_, rfl⟩
          have HNN := Lib.hid hn
          have HX := Lib.hid hx
          clear hn hx
          go_wp2
          try simp only [Act.put, List.setIfInBounds_toArray, List.set_cons_succ, List.set_cons_zero, Nat.reduceAdd, Nat.zero_add]
          refine wp_region_T 9 [] (by kernel_rfl) (by kernel_rfl) ?_
          intro ops F w0 pl hops hpl hw0 hF
          have hw0' := hw0.out
          subst hw0'
          simp only [List.take_succ_cons, List.take_zero, List.drop_succ_cons, List.drop_zero] at hF ⊢
          repeat (first | (refine wpL_pure (by first | rfl | (rw [hops.out]; rfl)) (by rw [hpl.out]; rfl) ?_ (fun wq hE hK => ?_) ?_; rotate_left; (clear hE hK; go_simp; rfl); (simp only [Act.put, List.setIfInBounds_toArray, List.set_cons_succ, List.set_cons_zero, Nat.reduceAdd, Nat.zero_add])) | (refine wpL_skip (by first | rfl | (rw [hops.out]; rfl)) ?_; simp only [Act.put, List.setIfInBounds_toArray, List.set_cons_succ, List.set_cons_zero, Nat.reduceAdd, Nat.zero_add]))
          refine wpL_pure (by first | rfl | (rw [hops.out]; rfl)) (by rw [hpl.out]; rfl) ?_ (fun wq hE hK => ?_) ?_
          rotate_left
          · have hc := (R2.out.bel hE).w32 (i := t) (by omega)
            rw [HX.out] at hc
            clear hE hK
            go_simp
            rfl
          simp only [Act.put, List.setIfInBounds_toArray, List.set_cons_succ, List.set_cons_zero, Nat.reduceAdd, Nat.zero_add]
          repeat (first | (refine wpL_pure (by first | rfl | (rw [hops.out]; rfl)) (by rw [hpl.out]; rfl) ?_ (fun wq hE hK => ?_) ?_; rotate_left; (clear hE hK; go_simp; rfl); (simp only [Act.put, List.setIfInBounds_toArray, List.set_cons_succ, List.set_cons_zero, Nat.reduceAdd, Nat.zero_add])) | (refine wpL_skip (by first | rfl | (rw [hops.out]; rfl)) ?_; simp only [Act.put, List.setIfInBounds_toArray, List.set_cons_succ, List.set_cons_zero, Nat.reduceAdd, Nat.zero_add]))
          refine wpL_pure (by first | rfl | (rw [hops.out]; rfl)) (by rw [hpl.out]; rfl) ?_ (fun wq hE hK => ?_) ?_
          rotate_left
          · have hc := (R7.out.bel hE).w32 (i := t) (by omega)
            rw [HNN.out] at hc
            clear hE hK
            go_simp
            rfl
          simp only [Act.put, List.setIfInBounds_toArray, List.set_cons_succ, List.set_cons_zero, Nat.reduceAdd, Nat.zero_add]
          repeat (first | (refine wpL_pure (by first | rfl | (rw [hops.out]; rfl)) (by rw [hpl.out]; rfl) ?_ (fun wq hE hK => ?_) ?_; rotate_left; (clear hE hK; go_simp; rfl); (simp only [Act.put, List.setIfInBounds_toArray, List.set_cons_succ, List.set_cons_zero, Nat.reduceAdd, Nat.zero_add])) | (refine wpL_skip (by first | rfl | (rw [hops.out]; rfl)) ?_; simp only [Act.put, List.setIfInBounds_toArray, List.set_cons_succ, List.set_cons_zero, Nat.reduceAdd, Nat.zero_add]))
          refine wpL_nil fun w' hE hK => hF.out _ _ ?_
          clear hK
          have r9 := R9.out.bel hE
          refine wpList_store_cell (v := .int .u32 (wv (x + n))) rfl rfl rfl (by simp only [IntKind.wrap_u32, wv_add]; rfl) rfl r9 u32_one (by rw [u32s_size, acc_len]; omega) ?_
          intro w8' r8 hu8
          go_wp2
          refine ⟨⟨t + 1, by go_num, by omega, ?_, (R2.out.bel hE).upd hu8 (by omega), (R4.out.bel hE).upd hu8 (by omega), (R7.out.bel hE).upd hu8 (by omega), below_upd (below_bel HB.out hE HB.out.size) hu8 (by omega)⟩, by simp [intOf]; omega⟩
          rw [acc_succ h L t hlt, ← u32s_set, HX.out, HNN.out]
          simpa using r8
        · obtain rfl : t = 8 := by omega
          have hsz8 : (Tryd.prog.info? 23).map (·.size) = some (u32s (acc h L 8)).size := (size_of w8_info).trans (by rw [u32s_size, acc_len])
          go_wp2_with (first
            | (refine wpList_load_arr rfl rfl rfl R9.out w8_und hsz8 ?_)
            | (refine wpList_store_arr rfl rfl rfl rfl R4.out hsz8 (by rw [HZ8.out, u32s_size, u32s_size, acc_len]; rfl) (u32s_one _) ?_; intro w14 r14 hu14))
          refine ret_arr rfl rfl r14 w8_und hsz8 ⟨?_, below_upd HB.out hu14 (by omega)⟩
          rw [acc_eight h L hh hs8, ← HLL.out]
          rfl
end Go.Proofs.YthcoccoanpmhgaaDoor
