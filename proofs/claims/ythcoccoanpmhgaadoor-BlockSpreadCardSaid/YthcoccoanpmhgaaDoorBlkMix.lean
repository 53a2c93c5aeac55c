/- Layer 3, walked: block.Mix. -/
import Derived.Test.YthcoccoanpmhgaaDoorBlkSpread
namespace Go.Proofs.YthcoccoanpmhgaaDoor
open Go.RowKit
set_option linter.unusedVariables false
set_option linter.unusedSimpArgs false
/-- The table of the sixty-four numbers, in memory. -/
def TabB (w : World) : Prop := 0 < w.heap.size ∧ ∀ j v, (u32s nums)[j]? = some v → w.cell? ⟨0, j, none⟩ = some v
theorem TabB.bel {w w' : World} (h : TabB w) (hb : Bel w w') : TabB w' := ⟨Nat.lt_of_lt_of_le h.1 hb.size, fun j v hv => (hb.cell (p := ⟨_, j, none⟩) h.1).trans (h.2 j v hv)⟩
theorem TabB.below {w w' : World} {B : Nat} (h : TabB w) (hb : Below B w w') (hB : w.heap.size ≤ B) : TabB w' := h.bel (hb.mono hB)
theorem TabB.upd {w w' : World} {g : Nat} (h : TabB w) (hu : Upd g w w') (hg : 0 ≠ g) : TabB w' := ⟨by rw [hu.size]; exact h.1, fun j v hv => by
  have := h.2 j v hv
  unfold World.cell? at this ⊢
  rw [hu.block _ hg]; exact this⟩
theorem wpList_load_tab {ops : Array Oper} {rest : List Oper} {o : Oper} {a : Act} {w : World} {Q : Exit → Act → World → Prop} (hgd : o.guard = none) (ho : o.op = .load 27 (.global 0)) (hT : TabB w)
    (h : wpList Tryd.prog ops Q rest (a.put o.dst (.agg (u32s nums))) w) : wpList Tryd.prog ops Q (o :: rest) a w := by
  refine wpList_plain hgd fun K hK => ?_
  have hl : (loadCells ⟨0, 0, none⟩ 64).run Tryd.prog w = .ok (u32s nums) w := by
    have := run_loadCells_list (P := Tryd.prog) w ⟨0, 0, none⟩ (u32s nums).toList (fun j v hv => by
      have hadd : (⟨0, 0, none⟩ : Addr).add j = ⟨0, j, none⟩ := by unfold Addr.add; split <;> simp_all
      rw [hadd]; exact hT.2 j v (by simpa using hv))
    have h64 : (u32s nums).toList.length = 64 := rfl
    rw [h64] at this
    simpa using this
  have hu := run_underlying w64_und w
  obtain ⟨i, hi⟩ : ∃ i, Tryd.prog.info? 27 = some i := by
    have := size_of w64_info
    cases hq : Tryd.prog.info? 27 with
    | none => simp [hq] at this
    | some i => exact ⟨i, rfl⟩
  have hs : i.size = 64 := by have := size_of w64_info; simpa [hi] using this
  unfold Oper.wp execOp
  simp [ho, Act.eval, Instr.loadAt, Instr.sureAddr, loadVar, isAgg, hu, sizeOf, typeInfo, hi, hs, hl, Sem.run_bind]
  exact hK _ _ h
theorem rounds_len (b : List UInt8) : (spread b).length = 64 := by unfold spread; rw [spr_len, pw_len]
theorem nums_len : nums.length = 64 := rfl
def acc (h v : List UInt32) (i : Nat) : List UInt32 := (List.range 8).map fun j => if j < i then h.getD j 0 + v.getD j 0 else h.getD j 0
theorem acc_len (h v : List UInt32) (i : Nat) : (acc h v i).length = 8 := by simp [acc]
theorem acc_zero (h v : List UInt32) (hh : h.length = 8) : acc h v 0 = h := by
  apply List.ext_getElem
  · simp [acc, hh]
  · intro j h1 h2; simp [acc, List.getD_eq_getElem?_getD, h2]
theorem acc_get (h v : List UInt32) (i : Nat) (hi : i < 8) : (acc h v i).getD i 0 = h.getD i 0 := by simp [acc, List.getD_eq_getElem?_getD, hi]
theorem acc_succ (h v : List UInt32) (i : Nat) (hi : i < 8) : acc h v (i + 1) = (acc h v i).set i (h.getD i 0 + v.getD i 0) := by
  apply List.ext_getElem
  · simp [acc]
  · intro j h1 h2
    rw [List.getElem_set]
    simp only [acc, List.getElem_map, List.getElem_range]
    by_cases hj : i = j
    · subst hj; simp
    · rw [if_neg hj]
      by_cases hlt : j < i
      · rw [if_pos (by omega), if_pos hlt]
      · rw [if_neg (by omega), if_neg hlt]
theorem acc_eight (h v : List UInt32) (hh : h.length = 8) (hv : v.length = 8) : acc h v 8 = List.zipWith (· + ·) h v := by
  apply List.ext_getElem
  · simp [acc, hh, hv]
  · intro j h1 h2
    rw [List.length_zipWith] at h2
    have hj : j < 8 := by rw [acc_len] at h1; exact h1
    simp [acc, List.getD_eq_getElem?_getD, hj, show j < h.length by omega, show j < v.length by omega]
theorem idx_n (j : Nat) (h : j < 64) (w : World) : (Instr.index 27 (.agg (u32s nums)) (.int .i64 (j : Int))).run Tryd.prog w = .ok (.int .u32 (wv (nums.getD j 0))) w :=
  run_index_arr w64_und und_u32 u32_one (by omega) (by omega) (u32s_get nums _ (by rw [nums_len]; omega))
theorem idx_8 (l : List UInt32) (hl : l.length = 8) (j : Nat) (h : j < 8) (w : World) : (Instr.index 23 (.agg (u32s l)) (.int .i64 (j : Int))).run Tryd.prog w = .ok (.int .u32 (wv (l.getD j 0))) w :=
  run_index_arr w8_und und_u32 u32_one (by omega) (by omega) (u32s_get l _ (by omega))
set_option maxHeartbeats 4000000 in
set_option maxRecDepth 100000 in
theorem mix_calls (h : List UInt32) (b : List UInt8) (hh : h.length = 8) (hb : b.length = 64) (w : World) (hT : TabB w) :
    Calls Tryd.prog 12 #[.agg (u32s h), .agg (b8s b)] w fun e w' => e = .returned (.agg (u32s (mix h b))) ∧ Below w.heap.size w w' := by
  have hz := Lib.hid (zero_of_info w64_info).1
  have hz8 := Lib.hid (zero_of_info w8_info).1
  obtain ⟨Z, hZ⟩ : ∃ Z, Z = u32s (List.replicate 64 0) := ⟨_, rfl⟩
  rw [← hZ] at hz
  obtain ⟨Z8, hZ8⟩ : ∃ Z, Z = u32s (List.replicate 8 0) := ⟨_, rfl⟩
  rw [← hZ8] at hz8
  obtain ⟨B, hB⟩ : ∃ B, B = b8s b := ⟨_, rfl⟩
  have hBs : B.size = 64 := by rw [hB, b8s_size, hb]
  obtain ⟨H, hH⟩ : ∃ H, H = u32s h := ⟨_, rfl⟩
  have hHs : H.size = 8 := by rw [hH, u32s_size, hh]
  rw [← hB, ← hH]
  have HBS := Lib.hid hBs
  have HHS := Lib.hid hHs
  have HB0 := Lib.hid hB
  have HH0 := Lib.hid hH
  have HZ := Lib.hid hZ
  have HZ8 := Lib.hid hZ8
  have HT := Lib.hid hT
  obtain ⟨N, hN⟩ : ∃ N, N = u32s nums := ⟨_, rfl⟩
  have HN := Lib.hid hN
  clear hBs hB hZ hZ8 hH hHs hT hN
  go_enter Tryd.func12, Tryd.ntmps12
  go_wp2_with (first
    | (replace r2 := r2; refine wpList_box_arr rfl rfl rfl ?_; intro g3 w3 hg3 r3 hb3; replace r2 := r2.bel hb3; have l3 := r3.lt)
    | (refine wpList_box_arr rfl rfl rfl ?_; intro g2 w2 hg2 r2 hb2; have l2 := r2.lt)
    | (refine wpList_alloc_arr rfl rfl hz8.out ?_; intro g4 w4 hg4 r4 hb4; replace r2 := r2.bel hb4; replace r3 := r3.bel hb4; have l4 := r4.lt))
  have hb1 := Bel.trans _ _ _ (Bel.trans _ _ _ hb2 hb3) hb4
  have HB := Lib.hid hb1
  have hg23 : g2 < g3 := by omega
  have hg34 : g3 < g4 := by omega
  have hwg : w.heap.size ≤ g2 := hg2
  rw [HH0.out] at r2
  have R2 := Lib.hid r2
  have R3 := Lib.hid r3
  have R4 := Lib.hid r4
  clear r2 r3 r4 hb2 hb3 hb4 hb1 l2 l3 l4
  obtain ⟨x0, hx0⟩ : ∃ x, h.getD 0 0 = x := ⟨_, rfl⟩
  obtain ⟨x1, hx1⟩ : ∃ x, h.getD 1 0 = x := ⟨_, rfl⟩
  obtain ⟨x2, hx2⟩ : ∃ x, h.getD 2 0 = x := ⟨_, rfl⟩
  obtain ⟨x3, hx3⟩ : ∃ x, h.getD 3 0 = x := ⟨_, rfl⟩
  obtain ⟨x4, hx4⟩ : ∃ x, h.getD 4 0 = x := ⟨_, rfl⟩
  obtain ⟨x5, hx5⟩ : ∃ x, h.getD 5 0 = x := ⟨_, rfl⟩
  obtain ⟨x6, hx6⟩ : ∃ x, h.getD 6 0 = x := ⟨_, rfl⟩
  obtain ⟨x7, hx7⟩ : ∃ x, h.getD 7 0 = x := ⟨_, rfl⟩
  have hst : stOf h = ⟨x0, x1, x2, x3, x4, x5, x6, x7⟩ := by unfold stOf; rw [hx0, hx1, hx2, hx3, hx4, hx5, hx6, hx7]
  have HX0 := Lib.hid hx0
  have HX1 := Lib.hid hx1
  have HX2 := Lib.hid hx2
  have HX3 := Lib.hid hx3
  have HX4 := Lib.hid hx4
  have HX5 := Lib.hid hx5
  have HX6 := Lib.hid hx6
  have HX7 := Lib.hid hx7
  clear hx0 hx1 hx2 hx3 hx4 hx5 hx6 hx7
  have HST := Lib.hid hst
  clear hst
  try simp only [Act.put, List.setIfInBounds_toArray, List.set_cons_succ, List.set_cons_zero, Nat.reduceAdd, Nat.zero_add]
  refine wp_region_A [] (by kernel_rfl) (by kernel_rfl) ?_
  intro ops F w0 pl hops hpl hw0 hF
  have hw0' := hw0.out
  subst hw0'
  repeat (first | (refine wpL_pure (by first | rfl | (rw [hops.out]; rfl)) (by rw [hpl.out]; rfl) ?_ (fun wq hE hK => ?_) ?_; rotate_left; (clear hE hK; go_simp; rfl); (simp only [Act.put, List.setIfInBounds_toArray, List.set_cons_succ, List.set_cons_zero, Nat.reduceAdd, Nat.zero_add])) | (refine wpL_skip (by first | rfl | (rw [hops.out]; rfl)) ?_; simp only [Act.put, List.setIfInBounds_toArray, List.set_cons_succ, List.set_cons_zero, Nat.reduceAdd, Nat.zero_add]))
  refine wpL_pure (by first | rfl | (rw [hops.out]; rfl)) (by rw [hpl.out]; rfl) ?_ (fun wq hE hK => ?_) ?_
  rotate_left
  · have hc := (R2.out.bel hE).w32 (i := 0) (by rw [hh]; omega)
    rw [HX0.out] at hc
    clear hE hK
    go_simp
    rfl
  simp only [Act.put, List.setIfInBounds_toArray, List.set_cons_succ, List.set_cons_zero, Nat.reduceAdd, Nat.zero_add]
  repeat (first | (refine wpL_pure (by first | rfl | (rw [hops.out]; rfl)) (by rw [hpl.out]; rfl) ?_ (fun wq hE hK => ?_) ?_; rotate_left; (clear hE hK; go_simp; rfl); (simp only [Act.put, List.setIfInBounds_toArray, List.set_cons_succ, List.set_cons_zero, Nat.reduceAdd, Nat.zero_add])) | (refine wpL_skip (by first | rfl | (rw [hops.out]; rfl)) ?_; simp only [Act.put, List.setIfInBounds_toArray, List.set_cons_succ, List.set_cons_zero, Nat.reduceAdd, Nat.zero_add]))
  refine wpL_pure (by first | rfl | (rw [hops.out]; rfl)) (by rw [hpl.out]; rfl) ?_ (fun wq hE hK => ?_) ?_
  rotate_left
  · have hc := (R2.out.bel hE).w32 (i := 1) (by rw [hh]; omega)
    rw [HX1.out] at hc
    clear hE hK
    go_simp
    rfl
  simp only [Act.put, List.setIfInBounds_toArray, List.set_cons_succ, List.set_cons_zero, Nat.reduceAdd, Nat.zero_add]
  repeat (first | (refine wpL_pure (by first | rfl | (rw [hops.out]; rfl)) (by rw [hpl.out]; rfl) ?_ (fun wq hE hK => ?_) ?_; rotate_left; (clear hE hK; go_simp; rfl); (simp only [Act.put, List.setIfInBounds_toArray, List.set_cons_succ, List.set_cons_zero, Nat.reduceAdd, Nat.zero_add])) | (refine wpL_skip (by first | rfl | (rw [hops.out]; rfl)) ?_; simp only [Act.put, List.setIfInBounds_toArray, List.set_cons_succ, List.set_cons_zero, Nat.reduceAdd, Nat.zero_add]))
  refine wpL_pure (by first | rfl | (rw [hops.out]; rfl)) (by rw [hpl.out]; rfl) ?_ (fun wq hE hK => ?_) ?_
  rotate_left
  · have hc := (R2.out.bel hE).w32 (i := 2) (by rw [hh]; omega)
    rw [HX2.out] at hc
    clear hE hK
    go_simp
    rfl
  simp only [Act.put, List.setIfInBounds_toArray, List.set_cons_succ, List.set_cons_zero, Nat.reduceAdd, Nat.zero_add]
  repeat (first | (refine wpL_pure (by first | rfl | (rw [hops.out]; rfl)) (by rw [hpl.out]; rfl) ?_ (fun wq hE hK => ?_) ?_; rotate_left; (clear hE hK; go_simp; rfl); (simp only [Act.put, List.setIfInBounds_toArray, List.set_cons_succ, List.set_cons_zero, Nat.reduceAdd, Nat.zero_add])) | (refine wpL_skip (by first | rfl | (rw [hops.out]; rfl)) ?_; simp only [Act.put, List.setIfInBounds_toArray, List.set_cons_succ, List.set_cons_zero, Nat.reduceAdd, Nat.zero_add]))
  refine wpL_pure (by first | rfl | (rw [hops.out]; rfl)) (by rw [hpl.out]; rfl) ?_ (fun wq hE hK => ?_) ?_
  rotate_left
  · have hc := (R2.out.bel hE).w32 (i := 3) (by rw [hh]; omega)
    rw [HX3.out] at hc
    clear hE hK
    go_simp
    rfl
  simp only [Act.put, List.setIfInBounds_toArray, List.set_cons_succ, List.set_cons_zero, Nat.reduceAdd, Nat.zero_add]
  repeat (first | (refine wpL_pure (by first | rfl | (rw [hops.out]; rfl)) (by rw [hpl.out]; rfl) ?_ (fun wq hE hK => ?_) ?_; rotate_left; (clear hE hK; go_simp; rfl); (simp only [Act.put, List.setIfInBounds_toArray, List.set_cons_succ, List.set_cons_zero, Nat.reduceAdd, Nat.zero_add])) | (refine wpL_skip (by first | rfl | (rw [hops.out]; rfl)) ?_; simp only [Act.put, List.setIfInBounds_toArray, List.set_cons_succ, List.set_cons_zero, Nat.reduceAdd, Nat.zero_add]))
  refine wpL_pure (by first | rfl | (rw [hops.out]; rfl)) (by rw [hpl.out]; rfl) ?_ (fun wq hE hK => ?_) ?_
  rotate_left
  · have hc := (R2.out.bel hE).w32 (i := 4) (by rw [hh]; omega)
    rw [HX4.out] at hc
    clear hE hK
    go_simp
    rfl
  simp only [Act.put, List.setIfInBounds_toArray, List.set_cons_succ, List.set_cons_zero, Nat.reduceAdd, Nat.zero_add]
  repeat (first | (refine wpL_pure (by first | rfl | (rw [hops.out]; rfl)) (by rw [hpl.out]; rfl) ?_ (fun wq hE hK => ?_) ?_; rotate_left; (clear hE hK; go_simp; rfl); (simp only [Act.put, List.setIfInBounds_toArray, List.set_cons_succ, List.set_cons_zero, Nat.reduceAdd, Nat.zero_add])) | (refine wpL_skip (by first | rfl | (rw [hops.out]; rfl)) ?_; simp only [Act.put, List.setIfInBounds_toArray, List.set_cons_succ, List.set_cons_zero, Nat.reduceAdd, Nat.zero_add]))
  refine wpL_pure (by first | rfl | (rw [hops.out]; rfl)) (by rw [hpl.out]; rfl) ?_ (fun wq hE hK => ?_) ?_
  rotate_left
  · have hc := (R2.out.bel hE).w32 (i := 5) (by rw [hh]; omega)
    rw [HX5.out] at hc
    clear hE hK
    go_simp
    rfl
  simp only [Act.put, List.setIfInBounds_toArray, List.set_cons_succ, List.set_cons_zero, Nat.reduceAdd, Nat.zero_add]
  repeat (first | (refine wpL_pure (by first | rfl | (rw [hops.out]; rfl)) (by rw [hpl.out]; rfl) ?_ (fun wq hE hK => ?_) ?_; rotate_left; (clear hE hK; go_simp; rfl); (simp only [Act.put, List.setIfInBounds_toArray, List.set_cons_succ, List.set_cons_zero, Nat.reduceAdd, Nat.zero_add])) | (refine wpL_skip (by first | rfl | (rw [hops.out]; rfl)) ?_; simp only [Act.put, List.setIfInBounds_toArray, List.set_cons_succ, List.set_cons_zero, Nat.reduceAdd, Nat.zero_add]))
  refine wpL_pure (by first | rfl | (rw [hops.out]; rfl)) (by rw [hpl.out]; rfl) ?_ (fun wq hE hK => ?_) ?_
  rotate_left
  · have hc := (R2.out.bel hE).w32 (i := 6) (by rw [hh]; omega)
    rw [HX6.out] at hc
    clear hE hK
    go_simp
    rfl
  simp only [Act.put, List.setIfInBounds_toArray, List.set_cons_succ, List.set_cons_zero, Nat.reduceAdd, Nat.zero_add]
  repeat (first | (refine wpL_pure (by first | rfl | (rw [hops.out]; rfl)) (by rw [hpl.out]; rfl) ?_ (fun wq hE hK => ?_) ?_; rotate_left; (clear hE hK; go_simp; rfl); (simp only [Act.put, List.setIfInBounds_toArray, List.set_cons_succ, List.set_cons_zero, Nat.reduceAdd, Nat.zero_add])) | (refine wpL_skip (by first | rfl | (rw [hops.out]; rfl)) ?_; simp only [Act.put, List.setIfInBounds_toArray, List.set_cons_succ, List.set_cons_zero, Nat.reduceAdd, Nat.zero_add]))
  refine wpL_pure (by first | rfl | (rw [hops.out]; rfl)) (by rw [hpl.out]; rfl) ?_ (fun wq hE hK => ?_) ?_
  rotate_left
  · have hc := (R2.out.bel hE).w32 (i := 7) (by rw [hh]; omega)
    rw [HX7.out] at hc
    clear hE hK
    go_simp
    rfl
  simp only [Act.put, List.setIfInBounds_toArray, List.set_cons_succ, List.set_cons_zero, Nat.reduceAdd, Nat.zero_add]
  repeat (first | (refine wpL_pure (by first | rfl | (rw [hops.out]; rfl)) (by rw [hpl.out]; rfl) ?_ (fun wq hE hK => ?_) ?_; rotate_left; (clear hE hK; go_simp; rfl); (simp only [Act.put, List.setIfInBounds_toArray, List.set_cons_succ, List.set_cons_zero, Nat.reduceAdd, Nat.zero_add])) | (refine wpL_skip (by first | rfl | (rw [hops.out]; rfl)) ?_; simp only [Act.put, List.setIfInBounds_toArray, List.set_cons_succ, List.set_cons_zero, Nat.reduceAdd, Nat.zero_add]))
  refine wpL_nil fun w' hE hK => hF.out _ _ ?_
  clear hK
  have HBE := Lib.hid hE
  have hsz : (Tryd.prog.info? 27).map (·.size) = some (u32s (spread b)).size := (size_of w64_info).trans (by rw [u32s_size, rounds_len])
  go_wp2_with (first
    | (refine wpList_load_arr rfl rfl rfl (R3.out.bel HBE.out) b64_und ((size_of b64_info).trans (by rw [HBS.out])) ?_)
    | (go_at_call 10; rw [HB0.out]; refine (spread_calls b hb _).mono ?_; rintro e w5 ⟨rfl, hb5⟩; have HB5 := Lib.hid hb5; clear hb5)
    | (refine wpList_alloc_arr rfl rfl hz.out ?_; intro g5 w6 hg5 r5 hb6; rw [HZ.out] at r5; have l5 := r5.lt; have R5 := Lib.hid r5; have HB6 := Lib.hid hb6; clear r5 hb6)
    | (refine wpList_store_arr rfl rfl rfl rfl R5.out hsz (by rw [u32s_size, u32s_size, rounds_len]; rfl) (u32s_one _) ?_; intro w7 r5 hu7; have R7 := Lib.hid r5; have HU7 := Lib.hid hu7; clear r5 hu7)
    | (refine wpList_load_tab rfl rfl (((HT.out.bel (Bel.trans _ _ _ (Bel.trans _ _ _ HB.out HBE.out) (Bel.trans _ _ _ HB5.out HB6.out))).upd HU7.out (by have := HT.out.1; have := HB.out.size; have := HBE.out.size; have := HB5.out.size; omega))) ?_; rw [← HN.out]))
  have hw06 := Bel.trans _ _ _ (Bel.trans _ _ _ HB.out HBE.out) (Bel.trans _ _ _ HB5.out HB6.out)
  have hw5 := (Bel.trans _ _ _ (Bel.trans _ _ _ HB.out HBE.out) HB5.out).size
  have hq0 := (Bel.trans _ _ _ HBE.out HB5.out).size
  have q2 := R2.out.lt
  have q4 := R4.out.lt
  have hb7 := below_upd hw06 HU7.out (by omega)
  have r2 := ((((R2.out.bel HBE.out).bel HB5.out).bel HB6.out).upd HU7.out (by omega))
  have r4 := ((((R4.out.bel HBE.out).bel HB5.out).bel HB6.out).upd HU7.out (by omega))
  have hg45 : g4 < g5 := by omega
  have R2 := Lib.hid r2
  have R4 := Lib.hid r4
  have HB7 := Lib.hid hb7
  clear hw06 hw5 hq0 q2 q4 hb7 r2 r4 HU7 HB6 HB5 HBE HB R5 R3 hE
  go_loopw [5, 6, 7, 8, 9, 10, 11, 12, 39] (fun a b' c d e f g z i wr => ∃ (t : Nat) (s : BSt), i = .int .i64 t ∧ t ≤ 64 ∧ rounds b (stOf h) t = s ∧ a = .int .u32 (wv s.a) ∧ b' = .int .u32 (wv s.b) ∧ c = .int .u32 (wv s.c) ∧ d = .int .u32 (wv s.d) ∧ e = .int .u32 (wv s.e) ∧ f = .int .u32 (wv s.f) ∧ g = .int .u32 (wv s.g) ∧ z = .int .u32 (wv s.z) ∧ Bel w7 wr) (fun _ _ _ _ _ _ _ _ i _ => 64 - (intOf i).toNat)
  case atStart => exact ⟨0, ⟨x0, x1, x2, x3, x4, x5, x6, x7⟩, rfl, by omega, HST.out, rfl, rfl, rfl, rfl, rfl, rfl, rfl, rfl, Below.refl _ _⟩
  case round =>
    obtain ⟨t, s, rfl, ht, hs, rfl, rfl, rfl, rfl, rfl, rfl, rfl, rfl, hbr⟩ := hrel
    obtain ⟨a1, b1, c1, d1, e1, f1, g1, z1⟩ := s
    simp only at *
    have HS := Lib.hid hs
    have HBR := Lib.hid hbr
    clear hs hbr
    by_cases hlt : t < 64
    · have hidx := idx_n t hlt
      rw [← HN.out] at hidx
      obtain ⟨n, hn⟩ : ∃ n, nums.getD t 0 = n := ⟨_, rfl⟩
      obtain ⟨x, hx⟩ : ∃ n, (spread b).getD t 0 = n := ⟨_, rfl⟩
      simp only [hn] at hidx
      have HNN := Lib.hid hn
      have HX := Lib.hid hx
      have hlt' : (t : Int) < 64 := by omega
      clear hn hx
      go_wp2
      try simp only [Act.put, List.setIfInBounds_toArray, List.set_cons_succ, List.set_cons_zero, Nat.reduceAdd, Nat.zero_add]
      refine wp_region_A [(2, MG.val (.int .u32 (wv (bg1 e1))))] (by kernel_rfl) (by kernel_rfl) ?_
      intro ops F w0 pl hops hpl hw0 hF
      have hw0' := hw0.out
      subst hw0'
      repeat (first | (refine wpL_pure (by first | rfl | (rw [hops.out]; rfl)) (by rw [hpl.out]; rfl) ?_ (fun wq hE hK => ?_) ?_; rotate_left; (clear hE hK; go_simp; rfl); (simp only [Act.put, List.setIfInBounds_toArray, List.set_cons_succ, List.set_cons_zero, Nat.reduceAdd, Nat.zero_add])) | (refine wpL_skip (by first | rfl | (rw [hops.out]; rfl)) ?_; simp only [Act.put, List.setIfInBounds_toArray, List.set_cons_succ, List.set_cons_zero, Nat.reduceAdd, Nat.zero_add]))
      refine wpL_val (u := .int .u32 (wv (bg1 e1))) (by first | rfl | (rw [hops.out]; rfl)) (by rw [hpl.out]; rfl) (fun wq hE hK => ?_) ?_
      · unfold StepOk
        clear hK
        go_simp
        refine (turned_calls e1 6 11 25 6 11 25 _ (by decide)).mono ?_
        rintro e w' ⟨rfl, rfl⟩
        exact ⟨rfl, Below.refl _ _⟩
      simp only [Act.put, List.setIfInBounds_toArray, List.set_cons_succ, List.set_cons_zero, Nat.reduceAdd, Nat.zero_add]
      repeat (first | (refine wpL_pure (by first | rfl | (rw [hops.out]; rfl)) (by rw [hpl.out]; rfl) ?_ (fun wq hE hK => ?_) ?_; rotate_left; (clear hE hK; go_simp; rfl); (simp only [Act.put, List.setIfInBounds_toArray, List.set_cons_succ, List.set_cons_zero, Nat.reduceAdd, Nat.zero_add])) | (refine wpL_skip (by first | rfl | (rw [hops.out]; rfl)) ?_; simp only [Act.put, List.setIfInBounds_toArray, List.set_cons_succ, List.set_cons_zero, Nat.reduceAdd, Nat.zero_add]))
      refine wpL_pure (by first | rfl | (rw [hops.out]; rfl)) (by rw [hpl.out]; rfl) ?_ (fun wq hE hK => ?_) ?_
      rotate_left
      · have hc := (R7.out.bel (Bel.trans _ _ _ HBR.out hE)).w32 (i := t) (by rw [rounds_len]; omega)
        rw [HX.out] at hc
        clear hE hK
        go_simp
        rfl
      simp only [Act.put, List.setIfInBounds_toArray, List.set_cons_succ, List.set_cons_zero, Nat.reduceAdd, Nat.zero_add]
      repeat (first | (refine wpL_pure (by first | rfl | (rw [hops.out]; rfl)) (by rw [hpl.out]; rfl) ?_ (fun wq hE hK => ?_) ?_; rotate_left; (clear hE hK; go_simp; rfl); (simp only [Act.put, List.setIfInBounds_toArray, List.set_cons_succ, List.set_cons_zero, Nat.reduceAdd, Nat.zero_add])) | (refine wpL_skip (by first | rfl | (rw [hops.out]; rfl)) ?_; simp only [Act.put, List.setIfInBounds_toArray, List.set_cons_succ, List.set_cons_zero, Nat.reduceAdd, Nat.zero_add]))
      refine wpL_nil fun w' hE hK => hF.out _ _ ?_
      clear hK
      have HE := Lib.hid hE
      go_wp2_with (first
        | (go_at_call 17; refine (turned_calls a1 2 13 22 2 13 22 _ (by decide)).mono ?_; rintro e w' ⟨rfl, rfl⟩))
      refine ⟨⟨t + 1, rnd ⟨a1, b1, c1, d1, e1, f1, g1, z1⟩ n x, by go_num, by omega, by rw [rounds, HS.out, HNN.out, HX.out], ?_, rfl, rfl, rfl, ?_, rfl, rfl, rfl, Bel.trans _ _ _ HBR.out HE.out⟩, by simp [intOf]; omega⟩
      · simp only [wv_add]; rfl
      · simp only [wv_add]; rfl
    · obtain rfl : t = 64 := by omega
      have r2 := R2.out.bel HBR.out
      have r4 := R4.out.bel HBR.out
      have hb7 := below_bel HB7.out HBR.out HB7.out.size
      have R2 := Lib.hid r2
      have R4 := Lib.hid r4
      have HB := Lib.hid hb7
      clear r2 r4 hb7 HBR
      have hi8 := idx_8 [a1, b1, c1, d1, e1, f1, g1, z1] rfl
      have HI8 := Lib.hid hi8
      clear hi8
      have HSL := Lib.hid (show (rounds b (stOf h) 64).list = [a1, b1, c1, d1, e1, f1, g1, z1] by rw [HS.out]; rfl)
      generalize hLL : [a1, b1, c1, d1, e1, f1, g1, z1] = L at *
      have hL8 : L.length = 8 := by rw [← hLL]; rfl
      have hU : u32s L = #[.int .u32 (wv a1), .int .u32 (wv b1), .int .u32 (wv c1), .int .u32 (wv d1), .int .u32 (wv e1), .int .u32 (wv f1), .int .u32 (wv g1), .int .u32 (wv z1)] := by rw [← hLL]; rfl
      rw [hU] at HI8
      clear hLL hU
      go_wp2
      simp only [show ((64 : Nat) : Int) = 64 from rfl]
      go_loopw [97] (fun i wr2 => ∃ t : Nat, i = .int .i64 t ∧ t ≤ 8 ∧ Row wr2 g2 23 (u32s (acc h L t)) ∧ Row wr2 g4 23 Z8 ∧ Below w.heap.size w wr2) (fun i _ => 8 - (intOf i).toNat)
      case atStart => exact ⟨0, rfl, by omega, by rw [acc_zero h L hh]; exact R2.out, R4.out, HB.out⟩
      case round =>
        clear R2 R4 HB
        obtain ⟨t, rfl, ht, r2, r4, hb⟩ := hrel
        have R2 := Lib.hid r2
        have R4 := Lib.hid r4
        have HB := Lib.hid hb
        clear r2 r4 hb
        by_cases hlt : t < 8
        · have hidx := HI8.out t hlt
          have hlt' : (t : Int) < 8 := by omega
          have hc := R2.out.w32 (i := t) (by rw [acc_len]; omega)
          rw [acc_get h L t hlt] at hc
          obtain ⟨n, hn⟩ : ∃ n, L.getD t 0 = n := ⟨_, rfl⟩
          obtain ⟨x, hx⟩ : ∃ n, h.getD t 0 = n := ⟨_, rfl⟩
          simp only [hn] at hidx
          rw [hx] at hc
          have HNN := Lib.hid hn
          have HX := Lib.hid hx
          clear hn hx
          go_wp2_with (first
            | (refine wpList_store_cell (v := .int .u32 (wv (x + n))) rfl rfl rfl rfl rfl R2.out u32_one (by rw [u32s_size, acc_len]; omega) ?_; intro w8 r8 hu8))
          go_roundw
          case rel =>
            refine ⟨t + 1, by go_num, by omega, ?_, R4.out.upd hu8 (by omega), below_upd HB.out hu8 (by omega)⟩
            rw [acc_succ h L t hlt, ← u32s_set, HX.out, HNN.out]
            simpa using r8
          case measure => simp [intOf]; omega
        · obtain rfl : t = 8 := by omega
          have hsz8 : (Tryd.prog.info? 23).map (·.size) = some (u32s (acc h L 8)).size := (size_of w8_info).trans (by rw [u32s_size, acc_len])
          go_wp2_with (first
            | (refine wpList_load_arr rfl rfl rfl R2.out w8_und hsz8 ?_)
            | (refine wpList_store_arr rfl rfl rfl rfl R4.out hsz8 (by rw [HZ8.out, u32s_size, u32s_size, acc_len]; rfl) (u32s_one _) ?_; intro w9 r9 hu9))
          refine ret_arr rfl rfl r9 w8_und hsz8 ⟨?_, below_upd HB.out hu9 (by omega)⟩
          rw [acc_eight h L hh hL8, ← HSL.out]
          rfl
end Go.Proofs.YthcoccoanpmhgaaDoor
