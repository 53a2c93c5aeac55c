/- Layer 3: the law BlockUndo, walked. -/
import Derived.Test.YthcoccoanpmhgaaDoorBlkLaw
import Derived.Test.YthcoccoanpmhgaaDoorBlkPure2
namespace Go.Proofs.YthcoccoanpmhgaaDoor
open Go.RowKit
set_option linter.unusedVariables false
set_option linter.unusedSimpArgs false
theorem i64_and_low (k : Int) (m : Nat) (hm : m < 63) : bits .and .i64 k ((2 ^ m - 1 : Nat) : Int) = k % (2 ^ m : Nat) := by
  have h2 : (2 : Nat) ^ m ≤ 2 ^ 62 := Nat.pow_le_pow_right (by omega) (by omega)
  have h1 : 0 < (2 : Nat) ^ m := Nat.two_pow_pos m
  show IntKind.i64.wrap ((BitVec.ofInt 64 k &&& BitVec.ofInt 64 ((2 ^ m - 1 : Nat) : Int)).toNat : Int) = _
  rw [BitVec.toNat_and, ofInt_i64 _ (by omega), Nat.and_two_pow_sub_one_eq_mod, BitVec.toNat_ofInt, IntKind.wrap_i64]
  have hd : ((2 : Nat) ^ m) ∣ 2 ^ 64 := Nat.pow_dvd_pow 2 (by omega)
  have h3 : (((k % (2 ^ 64 : Nat)).toNat % 2 ^ m : Nat) : Int) = k % (2 ^ m : Nat) := by
    rw [Int.natCast_emod, Int.toNat_of_nonneg (Int.emod_nonneg _ (by decide))]
    exact Int.emod_emod_of_dvd k (Int.natCast_dvd_natCast.2 hd)
  rw [h3]
  have h4 := Int.emod_nonneg k (show ((2 ^ m : Nat) : Int) ≠ 0 by omega)
  have h5 := Int.emod_lt_of_pos k (show 0 < ((2 ^ m : Nat) : Int) by omega)
  omega
theorem wv_beq (a b : UInt32) : (wv a == wv b) = (a == b) := by
  rw [Bool.eq_iff_iff, beq_iff_eq, beq_iff_eq]
  exact ⟨wv_inj, fun h => by rw [h]⟩
set_option maxHeartbeats 2000000 in
set_option maxRecDepth 100000 in
theorem law_undo (h : List UInt32) (k : Int) (x : UInt32) (b : List UInt8) (hh : h.length = 8) (hb : b.length = 64) (w : World) (hT : Tab w) :
    Calls Tryd.prog 5 #[.agg (u32s h), .int .i64 k, .int .u32 (wv x), .agg (u8s b)] w fun e w' => e = .returned (.bool true) ∧ Below w.heap.size w w' := by
  have hk := i64_and_low k 3 (by decide)
  obtain ⟨i, hi⟩ : ∃ i : Nat, k % (2 ^ 3 : Nat) = i := ⟨(k % (2 ^ 3 : Nat)).toNat, by omega⟩
  have hi8 : i < 8 := by omega
  rw [hi] at hk
  have hk' : bits .and .i64 k 7 = (i : Int) := hk
  have HU := Lib.hid (undo_law h b hh i hi8 x)
  obtain ⟨y, hy⟩ : ∃ y, h.getD i 0 = y := ⟨_, rfl⟩
  rw [hy] at HU
  obtain ⟨g, hg⟩ : ∃ g, h.set i (y ^^^ x) = g := ⟨_, rfl⟩
  rw [hg] at HU
  have hgl : g.length = 8 := by rw [← hg, List.length_set, hh]
  have HY := Lib.hid hy
  have HG := Lib.hid hg
  have HT := Lib.hid hT
  have hz8 := Lib.hid (zero_of_info w8_info).1
  have hmh := mix_len h b hh
  have hmg := mix_len g b hgl
  have sz8 : ∀ l : List UInt32, l.length = 8 → (Tryd.prog.info? 23).map (·.size) = some (u32s l).size := fun l hl => (size_of w8_info).trans (by rw [u32s_size, hl])
  have SZ8 := Lib.hid sz8
  have hi8' : (i : Int) < 8 := by omega
  clear hk hi hy hg hT sz8
  go_enter Tryd.func5, Tryd.ntmps5
  go_wp2_with (first
    | (replace r4 := r4; refine wpList_box_arr rfl rfl rfl ?_; intro g7 w2 hg7 r7 hb2; have q4 := r4.lt; replace r4 := r4.bel hb2)
    | (refine wpList_box_arr rfl rfl rfl ?_; intro g4 w1 hg4 r4 hb1; have q0 := r4.lt)
    | (go_at_call 7; refine (awake_calls _ (HT.out.bel (Bel.trans _ _ _ hb1 hb2))).mono ?_; rintro e w3 ⟨rfl, hb3⟩; have hbl := Bel.trans _ _ _ (Bel.trans _ _ _ hb1 hb2) hb3; replace r4 := r4.bel hb3; replace r7 := r7.bel hb3; have hc := r4.w32 (i := i) (by omega); rw [HY.out] at hc)
    | (refine wpList_load_arr rfl rfl rfl r4 w8_und (SZ8.out h hh) ?_)
    | (refine wpList_load_arr rfl rfl rfl r11 w8_und (SZ8.out g hgl) ?_)
    | (refine wpList_load_arr rfl rfl rfl r7 b64_und ((size_of b64_info).trans (by rw [u8s_size, hb])) ?_)
    | (go_at_call_of 12 (Value.agg (u32s h)); refine (mix_calls h b hh hb _ (HT.out.below hbl (Nat.le_refl _))).mono ?_; rintro e w7 ⟨rfl, hb7⟩; replace r4 := r4.bel hb7; replace r7 := r7.bel hb7; replace r11 := r11.bel hb7; replace hbl := below_bel hbl hb7 hbl.size)
    | (go_at_call_of 12 (Value.agg (u32s g)); refine (mix_calls g b hgl hb _ (HT.out.below hbl (Nat.le_refl _))).mono ?_; rintro e w10 ⟨rfl, hb10⟩; replace r4 := r4.bel hb10; replace r11 := r11.bel hb10; replace r12 := r12.bel hb10; replace hbl := below_bel hbl hb10 hbl.size)
    | (replace r12 := r12; refine wpList_alloc_arr rfl rfl hz8.out ?_; intro g13 w11 hg13 r13 hb11; have s4 := r4.lt; have s11 := r11.lt; have s12 := r12.lt; replace r4 := r4.bel hb11; replace r11 := r11.bel hb11; replace r12 := r12.bel hb11; replace hbl := below_bel hbl hb11 hbl.size)
    | (replace r11 := r11; refine wpList_alloc_arr rfl rfl hz8.out ?_; intro g12 w8 hg12 r12 hb8; have m4 := r4.lt; have m7 := r7.lt; have m11 := r11.lt; replace r4 := r4.bel hb8; replace r7 := r7.bel hb8; replace r11 := r11.bel hb8; replace hbl := below_bel hbl hb8 hbl.size)
    | (refine wpList_alloc_arr rfl rfl hz8.out ?_; intro g11 w4 hg11 r11 hb4; have p4 := r4.lt; have p7 := r7.lt; replace r4 := r4.bel hb4; replace r7 := r7.bel hb4; replace hbl := below_bel hbl hb4 hbl.size; clear hc)
    | (refine wpList_store_arr (cells := u32s h) rfl rfl rfl rfl r11 (SZ8.out h hh) (by rw [u32s_size, u32s_size, hh]; rfl) (u32s_one _) ?_; intro w5 r11 hu5; replace r4 := r4.upd hu5 (by omega); replace r7 := r7.upd hu5 (by omega); replace hbl := below_upd hbl hu5 (by have := hbl.size; omega); have hc := r4.w32 (i := i) (by omega); rw [HY.out] at hc)
    | (refine wpList_store_cell (v := .int .u32 (wv (y ^^^ x))) rfl rfl rfl rfl rfl r11 u32_one (by rw [u32s_size]; omega) ?_; intro w6 r11 hu6; rw [u32s_set, HG.out] at r11; replace r4 := r4.upd hu6 (by omega); replace r7 := r7.upd hu6 (by omega); replace hbl := below_upd hbl hu6 (by have := hbl.size; omega); clear hc)
    | (refine wpList_store_arr (cells := u32s (mix h b)) rfl rfl rfl rfl r12 (SZ8.out _ hmh) (by rw [u32s_size, u32s_size, hmh]; rfl) (u32s_one _) ?_; intro w9 r12 hu9; replace r4 := r4.upd hu9 (by omega); replace r7 := r7.upd hu9 (by omega); replace r11 := r11.upd hu9 (by omega); replace hbl := below_upd hbl hu9 (by have := hbl.size; omega))
    | (refine wpList_store_arr (cells := u32s (mix g b)) rfl rfl rfl rfl r13 (SZ8.out _ hmg) (by rw [u32s_size, u32s_size, hmg]; rfl) (u32s_one _) ?_; intro w12 r13 hu12; replace r4 := r4.upd hu12 (by omega); replace r11 := r11.upd hu12 (by omega); replace r12 := r12.upd hu12 (by omega); replace hbl := below_upd hbl hu12 (by have := hbl.size; omega)))
  have R4 := Lib.hid r4
  have R11 := Lib.hid r11
  have R12 := Lib.hid r12
  have R13 := Lib.hid r13
  have HBL := Lib.hid hbl
  clear r4 r11 r12 r13 hbl
  go_loopw [14, 15] (fun s n wr => ∃ t : Nat, n = .int .i64 t ∧ t ≤ 8 ∧ s = .bool (alike (added h b) (added g b) t) ∧ Bel w12 wr) (fun _ n _ => 8 - (intOf n).toNat)
  case atStart => exact ⟨0, rfl, by omega, rfl, Below.refl _ _⟩
  case round =>
    obtain ⟨t, rfl, ht, rfl, hbr⟩ := hrel
    have HBR := Lib.hid hbr
    clear hbr
    by_cases hlt : t < 8
    · have hlt' : (t : Int) < 8 := by omega
      have HA := Lib.hid (alike_succ (added h b) (added g b) t)
      have e1 := mix_sub h b hh t hlt
      have e2 := mix_sub g b hgl t hlt
      obtain ⟨m, hm⟩ : ∃ m, (mix h b).getD t 0 = m := ⟨_, rfl⟩
      obtain ⟨n, hn⟩ : ∃ m, (mix g b).getD t 0 = m := ⟨_, rfl⟩
      obtain ⟨p, hp⟩ : ∃ m, h.getD t 0 = m := ⟨_, rfl⟩
      obtain ⟨q, hq⟩ : ∃ m, g.getD t 0 = m := ⟨_, rfl⟩
      rw [hm, hp] at e1
      rw [hn, hq] at e2
      rw [← e1, ← e2] at HA
      have HM := Lib.hid hm
      have HN := Lib.hid hn
      have HP := Lib.hid hp
      have HQ := Lib.hid hq
      clear hm hn hp hq e1 e2
      obtain ⟨c, hc0⟩ : ∃ c, alike (added h b) (added g b) t = c := ⟨_, rfl⟩
      rw [hc0] at HA ⊢
      have HC0 := Lib.hid hc0
      clear hc0
      cases c
      · go_wp2
        try simp only [Act.put, List.setIfInBounds_toArray, List.set_cons_succ, List.set_cons_zero, Nat.reduceAdd, Nat.zero_add]
        refine wp_region_A [] (by kernel_rfl) (by kernel_rfl) ?_
        intro ops F w0 pl hops hpl hw0 hF
        have hw0' := hw0.out
        subst hw0'
        repeat (first | (refine wpL_pure (by first | rfl | (rw [hops.out]; rfl)) (by rw [hpl.out]; rfl) ?_ (fun wq hE hK => ?_) ?_; rotate_left; (clear hE hK; go_simp; rfl); (simp only [Act.put, List.setIfInBounds_toArray, List.set_cons_succ, List.set_cons_zero, Nat.reduceAdd, Nat.zero_add])) | (refine wpL_skip (by first | rfl | (rw [hops.out]; rfl)) ?_; simp only [Act.put, List.setIfInBounds_toArray, List.set_cons_succ, List.set_cons_zero, Nat.reduceAdd, Nat.zero_add]))
        refine wpL_nil fun w' hE hK => hF.out _ _ ?_
        clear hK
        go_wp2
        refine ⟨⟨t + 1, by go_num, by omega, by rw [HA.out]; rfl, Bel.trans _ _ _ HBR.out hE⟩, by simp [intOf]; omega⟩
      · go_wp2
        try simp only [Act.put, List.setIfInBounds_toArray, List.set_cons_succ, List.set_cons_zero, Nat.reduceAdd, Nat.zero_add]
        refine wp_region_A [] (by kernel_rfl) (by kernel_rfl) ?_
        intro ops F w0 pl hops hpl hw0 hF
        have hw0' := hw0.out
        subst hw0'
        repeat (first | (refine wpL_pure (by first | rfl | (rw [hops.out]; rfl)) (by rw [hpl.out]; rfl) ?_ (fun wq hE hK => ?_) ?_; rotate_left; (clear hE hK; go_simp; rfl); (simp only [Act.put, List.setIfInBounds_toArray, List.set_cons_succ, List.set_cons_zero, Nat.reduceAdd, Nat.zero_add])) | (refine wpL_skip (by first | rfl | (rw [hops.out]; rfl)) ?_; simp only [Act.put, List.setIfInBounds_toArray, List.set_cons_succ, List.set_cons_zero, Nat.reduceAdd, Nat.zero_add]))
        refine wpL_pure (by first | rfl | (rw [hops.out]; rfl)) (by rw [hpl.out]; rfl) ?_ (fun wq hE hK => ?_) ?_
        rotate_left
        · have hc := (R12.out.bel (Bel.trans _ _ _ HBR.out hE)).w32 (i := t) (by omega)
          rw [HM.out] at hc
          clear hE hK
          go_simp
          rfl
        simp only [Act.put, List.setIfInBounds_toArray, List.set_cons_succ, List.set_cons_zero, Nat.reduceAdd, Nat.zero_add]
        repeat (first | (refine wpL_pure (by first | rfl | (rw [hops.out]; rfl)) (by rw [hpl.out]; rfl) ?_ (fun wq hE hK => ?_) ?_; rotate_left; (clear hE hK; go_simp; rfl); (simp only [Act.put, List.setIfInBounds_toArray, List.set_cons_succ, List.set_cons_zero, Nat.reduceAdd, Nat.zero_add])) | (refine wpL_skip (by first | rfl | (rw [hops.out]; rfl)) ?_; simp only [Act.put, List.setIfInBounds_toArray, List.set_cons_succ, List.set_cons_zero, Nat.reduceAdd, Nat.zero_add]))
        refine wpL_pure (by first | rfl | (rw [hops.out]; rfl)) (by rw [hpl.out]; rfl) ?_ (fun wq hE hK => ?_) ?_
        rotate_left
        · have hc := (R4.out.bel (Bel.trans _ _ _ HBR.out hE)).w32 (i := t) (by omega)
          rw [HP.out] at hc
          clear hE hK
          go_simp
          rfl
        simp only [Act.put, List.setIfInBounds_toArray, List.set_cons_succ, List.set_cons_zero, Nat.reduceAdd, Nat.zero_add]
        repeat (first | (refine wpL_pure (by first | rfl | (rw [hops.out]; rfl)) (by rw [hpl.out]; rfl) ?_ (fun wq hE hK => ?_) ?_; rotate_left; (clear hE hK; go_simp; rfl); (simp only [Act.put, List.setIfInBounds_toArray, List.set_cons_succ, List.set_cons_zero, Nat.reduceAdd, Nat.zero_add])) | (refine wpL_skip (by first | rfl | (rw [hops.out]; rfl)) ?_; simp only [Act.put, List.setIfInBounds_toArray, List.set_cons_succ, List.set_cons_zero, Nat.reduceAdd, Nat.zero_add]))
        refine wpL_pure (by first | rfl | (rw [hops.out]; rfl)) (by rw [hpl.out]; rfl) ?_ (fun wq hE hK => ?_) ?_
        rotate_left
        · have hc := (R13.out.bel (Bel.trans _ _ _ HBR.out hE)).w32 (i := t) (by omega)
          rw [HN.out] at hc
          clear hE hK
          go_simp
          rfl
        simp only [Act.put, List.setIfInBounds_toArray, List.set_cons_succ, List.set_cons_zero, Nat.reduceAdd, Nat.zero_add]
        repeat (first | (refine wpL_pure (by first | rfl | (rw [hops.out]; rfl)) (by rw [hpl.out]; rfl) ?_ (fun wq hE hK => ?_) ?_; rotate_left; (clear hE hK; go_simp; rfl); (simp only [Act.put, List.setIfInBounds_toArray, List.set_cons_succ, List.set_cons_zero, Nat.reduceAdd, Nat.zero_add])) | (refine wpL_skip (by first | rfl | (rw [hops.out]; rfl)) ?_; simp only [Act.put, List.setIfInBounds_toArray, List.set_cons_succ, List.set_cons_zero, Nat.reduceAdd, Nat.zero_add]))
        refine wpL_pure (by first | rfl | (rw [hops.out]; rfl)) (by rw [hpl.out]; rfl) ?_ (fun wq hE hK => ?_) ?_
        rotate_left
        · have hc := (R11.out.bel (Bel.trans _ _ _ HBR.out hE)).w32 (i := t) (by omega)
          rw [HQ.out] at hc
          clear hE hK
          go_simp
          rfl
        simp only [Act.put, List.setIfInBounds_toArray, List.set_cons_succ, List.set_cons_zero, Nat.reduceAdd, Nat.zero_add]
        repeat (first | (refine wpL_pure (by first | rfl | (rw [hops.out]; rfl)) (by rw [hpl.out]; rfl) ?_ (fun wq hE hK => ?_) ?_; rotate_left; (clear hE hK; go_simp; rfl); (simp only [Act.put, List.setIfInBounds_toArray, List.set_cons_succ, List.set_cons_zero, Nat.reduceAdd, Nat.zero_add])) | (refine wpL_skip (by first | rfl | (rw [hops.out]; rfl)) ?_; simp only [Act.put, List.setIfInBounds_toArray, List.set_cons_succ, List.set_cons_zero, Nat.reduceAdd, Nat.zero_add]))
        refine wpL_nil fun w' hE hK => hF.out _ _ ?_
        clear hK
        go_wp2
        refine ⟨⟨t + 1, by go_num, by omega, by rw [HA.out]; simp only [IntKind.wrap_u32, wv_sub, wv_beq, Bool.true_and], Bel.trans _ _ _ HBR.out hE⟩, by simp [intOf]; omega⟩
    · obtain rfl : t = 8 := by omega
      rw [HU.out]
      have h0 : (wv x == 0) = decide (x = 0) := by
        rw [Bool.eq_iff_iff, beq_iff_eq, decide_eq_true_eq]
        exact ⟨fun h => wv_inj (by rw [h]; rfl), fun h => by rw [h]; rfl⟩
      go_wp2
      go_ret
      exact ⟨by simp, Bel.trans _ _ _ HBL.out HBR.out⟩
theorem run_undo (w : World) (hT : Tab w) {h : List UInt32} {k n : Int} {b : List UInt8} (hh : h.length = 8) (hk : (Lit.int .i64 k).wf = true) (hn : (Lit.int .u32 n).wf = true) (hb : b.length = 64) :
    Calls Tryd.prog 5 #[.agg (h.map fun x => Value.int .u32 (wv x)).toArray, .int .i64 k, .int .u32 n, .agg (b.map fun x => Value.int .u8 x.toNat).toArray] w fun e w' => e = .returned (.bool true) ∧ Below w.heap.size w w' := by
  simp [Lit.wf, IntKind.min, IntKind.max, IntKind.signed, IntKind.bits] at hn
  have e : n = wv (UInt32.ofNat n.toNat) := by unfold wv; rw [UInt32.toNat_ofNat']; omega
  rw [e]
  exact law_undo h k _ b hh hb w hT
end Go.Proofs.YthcoccoanpmhgaaDoor
