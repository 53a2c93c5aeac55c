/- Layer 3: the types of the arrays. -/
import Derived.Test.YthcoccoanpmhgaaDoorArr
import Derived.Test.YthcoccoanpmhgaaDoorMG
import Derived.Test.YthcoccoanpmhgaaDoorBlkPure
import Derived.Test.YthcoccoanpmhgaaDoorRows
import Derived.WalkKit
import Derived.ProofKit
import Derived.BigQuiet
import Derived.Deep.RegionHeld3
import Derived.StillTailTactics
import Derived.Deep.WholeRow
namespace Go.Proofs.YthcoccoanpmhgaaDoor
open Go.RowKit
set_option linter.unusedVariables false
set_option linter.unusedSimpArgs false
theorem w64_info : (Tryd.prog.info? 27).map (fun i => (i.zero, i.size)) = some (some (.agg (u32s (List.replicate 64 0))), 64) := by kernel_rfl
theorem w8_info : (Tryd.prog.info? 23).map (fun i => (i.zero, i.size)) = some (some (.agg (u32s (List.replicate 8 0))), 8) := by kernel_rfl
theorem b64_info : (Tryd.prog.info? 24).map (fun i => (i.zero, i.size)) = some (some (.agg (b8s (List.replicate 64 0))), 64) := by kernel_rfl
theorem w64_und : Tryd.prog.underlying 27 = some (.array 64 22) := by kernel_rfl
theorem w8_und : Tryd.prog.underlying 23 = some (.array 8 22) := by kernel_rfl
theorem b64_und : Tryd.prog.underlying 24 = some (.array 64 5) := by kernel_rfl
theorem u32s_size (l : List UInt32) : (u32s l).size = l.length := by simp [u32s]
theorem b8s_size (l : List UInt8) : (b8s l).size = l.length := by simp [b8s]
theorem u32s_one (l : List UInt32) : (u32s l).all (·.oneCell') = true := by simp [u32s, List.all_map]; intro x _; rfl
theorem b8s_one (l : List UInt8) : (b8s l).all (·.oneCell') = true := by simp [b8s, List.all_map]; intro x _; rfl
theorem u32s_get (l : List UInt32) (i : Nat) (h : i < l.length) : (u32s l)[i]? = some (.int .u32 (wv (l.getD i 0))) := by simp [u32s, h]
theorem b8s_get (l : List UInt8) (i : Nat) (h : i < l.length) : (b8s l)[i]? = some (.int .u8 (l.getD i 0).toNat) := by simp [b8s, h]
theorem u32s_set (l : List UInt32) (i : Nat) (x : UInt32) : (u32s l).setIfInBounds i (.int .u32 (wv x)) = u32s (l.set i x) := by simp [u32s, List.map_set]
theorem Row.w32 {w : World} {g : Nat} {t : TypeId} {l : List UInt32} (h : Row w g t (u32s l)) {i : Nat} (hi : i < l.length) : w.cell? ⟨g, i, none⟩ = some (.int .u32 (wv (l.getD i 0))) := (h.cell i).trans (u32s_get l i hi)
theorem Row.w8 {w : World} {g : Nat} {t : TypeId} {l : List UInt8} (h : Row w g t (b8s l)) {i : Nat} (hi : i < l.length) : w.cell? ⟨g, i, none⟩ = some (.int .u8 (l.getD i 0).toNat) := (h.cell i).trans (b8s_get l i hi)
/-- math/bits.RotateLeft32, to the right by n. -/
def rk (k : Int) : UInt32 := UInt32.ofNat (-k).toNat
theorem rot_calls (x : UInt32) (k : Int) (w : World) (h : k ∈ [(-7 : Int), -18, -17, -19, -6, -11, -25, -2, -13, -22]) :
    Calls Tryd.prog 19 #[.int .u32 (wv x), .int .i64 k] w fun e w' => e = .returned (.int .u32 (wv (rotr x (rk k)))) ∧ w = w' := by
  simp only [List.mem_cons, List.not_mem_nil, or_false] at h
  rcases h with rfl | rfl | rfl | rfl | rfl | rfl | rfl | rfl | rfl | rfl
  · have hk : bits .and .u64 (IntKind.u64.wrap (-7)) 31 = 25 := by decide
    go_enter Tryd.func19, Tryd.ntmps19
    go_wp2
    go_ret
    exact ⟨ret_int (by rw [UInt32.or_comm]; rfl), rfl⟩
  · have hk : bits .and .u64 (IntKind.u64.wrap (-18)) 31 = 14 := by decide
    go_enter Tryd.func19, Tryd.ntmps19
    go_wp2
    go_ret
    exact ⟨ret_int (by rw [UInt32.or_comm]; rfl), rfl⟩
  · have hk : bits .and .u64 (IntKind.u64.wrap (-17)) 31 = 15 := by decide
    go_enter Tryd.func19, Tryd.ntmps19
    go_wp2
    go_ret
    exact ⟨ret_int (by rw [UInt32.or_comm]; rfl), rfl⟩
  · have hk : bits .and .u64 (IntKind.u64.wrap (-19)) 31 = 13 := by decide
    go_enter Tryd.func19, Tryd.ntmps19
    go_wp2
    go_ret
    exact ⟨ret_int (by rw [UInt32.or_comm]; rfl), rfl⟩
  · have hk : bits .and .u64 (IntKind.u64.wrap (-6)) 31 = 26 := by decide
    go_enter Tryd.func19, Tryd.ntmps19
    go_wp2
    go_ret
    exact ⟨ret_int (by rw [UInt32.or_comm]; rfl), rfl⟩
  · have hk : bits .and .u64 (IntKind.u64.wrap (-11)) 31 = 21 := by decide
    go_enter Tryd.func19, Tryd.ntmps19
    go_wp2
    go_ret
    exact ⟨ret_int (by rw [UInt32.or_comm]; rfl), rfl⟩
  · have hk : bits .and .u64 (IntKind.u64.wrap (-25)) 31 = 7 := by decide
    go_enter Tryd.func19, Tryd.ntmps19
    go_wp2
    go_ret
    exact ⟨ret_int (by rw [UInt32.or_comm]; rfl), rfl⟩
  · have hk : bits .and .u64 (IntKind.u64.wrap (-2)) 31 = 30 := by decide
    go_enter Tryd.func19, Tryd.ntmps19
    go_wp2
    go_ret
    exact ⟨ret_int (by rw [UInt32.or_comm]; rfl), rfl⟩
  · have hk : bits .and .u64 (IntKind.u64.wrap (-13)) 31 = 19 := by decide
    go_enter Tryd.func19, Tryd.ntmps19
    go_wp2
    go_ret
    exact ⟨ret_int (by rw [UInt32.or_comm]; rfl), rfl⟩
  · have hk : bits .and .u64 (IntKind.u64.wrap (-22)) 31 = 10 := by decide
    go_enter Tryd.func19, Tryd.ntmps19
    go_wp2
    go_ret
    exact ⟨ret_int (by rw [UInt32.or_comm]; rfl), rfl⟩
theorem turned_calls (x : UInt32) (a b c : Int) (k m n : UInt32) (w : World) (h : (a, b, c, k, m, n) ∈ [((6 : Int), (11 : Int), (25 : Int), (6 : UInt32), (11 : UInt32), (25 : UInt32)), (2, 13, 22, 2, 13, 22)]) :
    Calls Tryd.prog 17 #[.int .u32 (wv x), .int .i64 a, .int .i64 b, .int .i64 c] w fun e w' => e = .returned (.int .u32 (wv (rotr x k ^^^ rotr x m ^^^ rotr x n))) ∧ w = w' := by
  simp only [List.mem_cons, Prod.mk.injEq, List.not_mem_nil, or_false] at h
  rcases h with ⟨rfl, rfl, rfl, rfl, rfl, rfl⟩ | ⟨rfl, rfl, rfl, rfl, rfl, rfl⟩
  · go_enter Tryd.func17, Tryd.ntmps17
    go_wp2_with (go_at_call 19; refine (rot_calls x _ _ (by decide)).mono ?_; rintro e w' ⟨rfl, rfl⟩)
    go_ret
    exact ⟨ret_int rfl, rfl⟩
  · go_enter Tryd.func17, Tryd.ntmps17
    go_wp2_with (go_at_call 19; refine (rot_calls x _ _ (by decide)).mono ?_; rintro e w' ⟨rfl, rfl⟩)
    go_ret
    exact ⟨ret_int rfl, rfl⟩
theorem moved_calls (x : UInt32) (a b c : Int) (k m n : UInt32) (w : World) (h : (a, b, c, k, m, n) ∈ [((7 : Int), (18 : Int), (3 : Int), (7 : UInt32), (18 : UInt32), (3 : UInt32)), (17, 19, 10, 17, 19, 10)]) :
    Calls Tryd.prog 14 #[.int .u32 (wv x), .int .i64 a, .int .i64 b, .int .i64 c] w fun e w' => e = .returned (.int .u32 (wv (rotr x k ^^^ rotr x m ^^^ (x >>> n)))) ∧ Below w.heap.size w w' := by
  simp only [List.mem_cons, Prod.mk.injEq, List.not_mem_nil, or_false] at h
  rcases h with ⟨rfl, rfl, rfl, rfl, rfl, rfl⟩ | ⟨rfl, rfl, rfl, rfl, rfl, rfl⟩
  · go_enter Tryd.func14, Tryd.ntmps14
    go_wp2
    try simp only [Act.put, List.setIfInBounds_toArray, List.set_cons_succ, List.set_cons_zero, Nat.reduceAdd, Nat.zero_add]
    refine wp_region_A [(3, MG.val (.int .u32 (wv (rotr x 7)))), (7, MG.val (.int .u32 (wv (rotr x 18))))] (by kernel_rfl) (by kernel_rfl) ?_
    intro ops F w0 pl hops hpl hw0 hF
    have hw0' := hw0.out
    subst hw0'
    repeat (first | (refine wpL_pure (by first | rfl | (rw [hops.out]; rfl)) (by rw [hpl.out]; rfl) ?_ (fun wq hE hK => ?_) ?_; rotate_left; (clear hE hK; go_simp; rfl); (simp only [Act.put, List.setIfInBounds_toArray, List.set_cons_succ, List.set_cons_zero, Nat.reduceAdd, Nat.zero_add])) | (refine wpL_skip (by first | rfl | (rw [hops.out]; rfl)) ?_; simp only [Act.put, List.setIfInBounds_toArray, List.set_cons_succ, List.set_cons_zero, Nat.reduceAdd, Nat.zero_add]))
    refine wpL_val (u := .int .u32 (wv (rotr x 7))) (by first | rfl | (rw [hops.out]; rfl)) (by rw [hpl.out]; rfl) (fun wq hE hK => ?_) ?_
    · unfold StepOk
      go_simp
      refine (rot_calls x _ _ (by decide)).mono ?_
      rintro e w' ⟨rfl, rfl⟩
      exact ⟨rfl, Below.refl _ _⟩
    simp only [Act.put, List.setIfInBounds_toArray, List.set_cons_succ, List.set_cons_zero, Nat.reduceAdd, Nat.zero_add]
    repeat (first | (refine wpL_pure (by first | rfl | (rw [hops.out]; rfl)) (by rw [hpl.out]; rfl) ?_ (fun wq hE hK => ?_) ?_; rotate_left; (clear hE hK; go_simp; rfl); (simp only [Act.put, List.setIfInBounds_toArray, List.set_cons_succ, List.set_cons_zero, Nat.reduceAdd, Nat.zero_add])) | (refine wpL_skip (by first | rfl | (rw [hops.out]; rfl)) ?_; simp only [Act.put, List.setIfInBounds_toArray, List.set_cons_succ, List.set_cons_zero, Nat.reduceAdd, Nat.zero_add]))
    refine wpL_val (u := .int .u32 (wv (rotr x 18))) (by first | rfl | (rw [hops.out]; rfl)) (by rw [hpl.out]; rfl) (fun wq hE hK => ?_) ?_
    · unfold StepOk
      go_simp
      refine (rot_calls x _ _ (by decide)).mono ?_
      rintro e w' ⟨rfl, rfl⟩
      exact ⟨rfl, Below.refl _ _⟩
    simp only [Act.put, List.setIfInBounds_toArray, List.set_cons_succ, List.set_cons_zero, Nat.reduceAdd, Nat.zero_add]
    repeat (first | (refine wpL_pure (by first | rfl | (rw [hops.out]; rfl)) (by rw [hpl.out]; rfl) ?_ (fun wq hE hK => ?_) ?_; rotate_left; (clear hE hK; go_simp; rfl); (simp only [Act.put, List.setIfInBounds_toArray, List.set_cons_succ, List.set_cons_zero, Nat.reduceAdd, Nat.zero_add])) | (refine wpL_skip (by first | rfl | (rw [hops.out]; rfl)) ?_; simp only [Act.put, List.setIfInBounds_toArray, List.set_cons_succ, List.set_cons_zero, Nat.reduceAdd, Nat.zero_add]))
    refine wpL_nil fun w' hE hK => hF.out _ _ ?_
    go_wp2
    go_ret
    exact ⟨rfl, hE⟩
  · go_enter Tryd.func14, Tryd.ntmps14
    go_wp2
    try simp only [Act.put, List.setIfInBounds_toArray, List.set_cons_succ, List.set_cons_zero, Nat.reduceAdd, Nat.zero_add]
    refine wp_region_A [(3, MG.val (.int .u32 (wv (rotr x 17)))), (7, MG.val (.int .u32 (wv (rotr x 19))))] (by kernel_rfl) (by kernel_rfl) ?_
    intro ops F w0 pl hops hpl hw0 hF
    have hw0' := hw0.out
    subst hw0'
    repeat (first | (refine wpL_pure (by first | rfl | (rw [hops.out]; rfl)) (by rw [hpl.out]; rfl) ?_ (fun wq hE hK => ?_) ?_; rotate_left; (clear hE hK; go_simp; rfl); (simp only [Act.put, List.setIfInBounds_toArray, List.set_cons_succ, List.set_cons_zero, Nat.reduceAdd, Nat.zero_add])) | (refine wpL_skip (by first | rfl | (rw [hops.out]; rfl)) ?_; simp only [Act.put, List.setIfInBounds_toArray, List.set_cons_succ, List.set_cons_zero, Nat.reduceAdd, Nat.zero_add]))
    refine wpL_val (u := .int .u32 (wv (rotr x 17))) (by first | rfl | (rw [hops.out]; rfl)) (by rw [hpl.out]; rfl) (fun wq hE hK => ?_) ?_
    · unfold StepOk
      go_simp
      refine (rot_calls x _ _ (by decide)).mono ?_
      rintro e w' ⟨rfl, rfl⟩
      exact ⟨rfl, Below.refl _ _⟩
    simp only [Act.put, List.setIfInBounds_toArray, List.set_cons_succ, List.set_cons_zero, Nat.reduceAdd, Nat.zero_add]
    repeat (first | (refine wpL_pure (by first | rfl | (rw [hops.out]; rfl)) (by rw [hpl.out]; rfl) ?_ (fun wq hE hK => ?_) ?_; rotate_left; (clear hE hK; go_simp; rfl); (simp only [Act.put, List.setIfInBounds_toArray, List.set_cons_succ, List.set_cons_zero, Nat.reduceAdd, Nat.zero_add])) | (refine wpL_skip (by first | rfl | (rw [hops.out]; rfl)) ?_; simp only [Act.put, List.setIfInBounds_toArray, List.set_cons_succ, List.set_cons_zero, Nat.reduceAdd, Nat.zero_add]))
    refine wpL_val (u := .int .u32 (wv (rotr x 19))) (by first | rfl | (rw [hops.out]; rfl)) (by rw [hpl.out]; rfl) (fun wq hE hK => ?_) ?_
    · unfold StepOk
      go_simp
      refine (rot_calls x _ _ (by decide)).mono ?_
      rintro e w' ⟨rfl, rfl⟩
      exact ⟨rfl, Below.refl _ _⟩
    simp only [Act.put, List.setIfInBounds_toArray, List.set_cons_succ, List.set_cons_zero, Nat.reduceAdd, Nat.zero_add]
    repeat (first | (refine wpL_pure (by first | rfl | (rw [hops.out]; rfl)) (by rw [hpl.out]; rfl) ?_ (fun wq hE hK => ?_) ?_; rotate_left; (clear hE hK; go_simp; rfl); (simp only [Act.put, List.setIfInBounds_toArray, List.set_cons_succ, List.set_cons_zero, Nat.reduceAdd, Nat.zero_add])) | (refine wpL_skip (by first | rfl | (rw [hops.out]; rfl)) ?_; simp only [Act.put, List.setIfInBounds_toArray, List.set_cons_succ, List.set_cons_zero, Nat.reduceAdd, Nat.zero_add]))
    refine wpL_nil fun w' hE hK => hF.out _ _ ?_
    go_wp2
    go_ret
    exact ⟨rfl, hE⟩
end Go.Proofs.YthcoccoanpmhgaaDoor
