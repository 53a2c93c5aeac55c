/- Layer 1, walked: what varint's functions answer. -/
import Derived.Test.YthcoccoanpmhgaaBase
import Derived.Test.YthcoccoanpmhgaaVarPure
import Derived.BigQuiet
import Derived.Deep.RegionHeld3
import Derived.StillTailTactics
namespace Go.Proofs.Ythcoccoanpmhgaa
open Go.RowKit
set_option linter.unusedVariables false
set_option linter.unusedSimpArgs false
theorem size_calls (n : Int) (w : World) : Calls Try.prog 12 #[.int .i64 n] w fun e w' => e = .returned (.int .i64 (vsize n)) ∧ w = w' := by
  go_enter Try.func12, Try.ntmps12
  go_wp2
  all_goals
    go_ret
    refine ⟨ret_int ?_, rfl⟩
    unfold vsize
    repeat' split
    all_goals omega
theorem vlen_div (x : UInt8) : ((x.toNat : Int) / 64 = 0 ∧ vlen x = 1) ∨ ((x.toNat : Int) / 64 = 1 ∧ vlen x = 2) ∨ ((x.toNat : Int) / 64 = 2 ∧ vlen x = 4) ∨ ((x.toNat : Int) / 64 = 3 ∧ vlen x = 0) := by
  have := UInt8.toNat_lt x
  unfold vlen
  (repeat' split) <;> omega
theorem idx_tab (x : UInt8) (w : World) : (Instr.index 36 (.agg #[.int .i64 1, .int .i64 2, .int .i64 4, .int .i64 0]) (.int .u8 ((x.toNat : Int) / 64))).run Try.prog w = .ok (.int .i64 (vlen x)) w := by
  rcases vlen_div x with ⟨h, h'⟩ | ⟨h, h'⟩ | ⟨h, h'⟩ | ⟨h, h'⟩ <;> rw [h, h'] <;> kernel_rfl
set_option maxHeartbeats 400000 in
theorem get_nil (O : Nat → Prop) (v : Value) (w : World) (h : Sl kU8 w O v []) :
    Calls Try.prog 10 #[v] w fun e w' => e = .returned (.tuple #[.int .i64 0, .slice none 0 0, .int .i64 1]) ∧ w = w' := by
  obtain ⟨A, c, rfl, hl, hc⟩ := h.val
  go_enter Try.func10, Try.ntmps10
  go_wp2
  go_ret3
  exact ⟨rfl, rfl⟩
set_option maxHeartbeats 400000 in
theorem get_bad (x : UInt8) (r : List UInt8) (O : Nat → Prop) (v : Value) (w : World) (h : Sl kU8 w O v (x :: r)) (hx : vlen x = 0 ∨ r.length + 1 < vlen x) :
    Calls Try.prog 10 #[v] w fun e w' => e = .returned (.tuple #[.int .i64 0, .slice none 0 0, .int .i64 (if vlen x = 0 then 2 else 1)]) ∧ w = w' := by
  obtain ⟨A, c, rfl, hl, hc⟩ := h.val
  obtain ⟨ag, ao, rfl, h0⟩ := h.byte (k := 0) (by simp)
  simp only [List.getElem_cons_zero, Nat.add_zero] at h0
  simp only [List.length_cons] at *
  unfold maxLen at hc
  have hb : x.toNat < 256 := UInt8.toNat_lt x
  have hi := fun w => idx_tab x w
  generalize vlen x = k at *
  clear h
  rcases hx with rfl | hx
  · go_enter Try.func10, Try.ntmps10
    go_wp2
    go_ret3
    exact ⟨rfl, rfl⟩
  · have hk : ((k : Int) == 0) = false := by rw [beq_eq_false_iff_ne]; omega
    have hk' : ¬ k = 0 := by omega
    go_enter Try.func10, Try.ntmps10
    go_wp2
    go_ret3
    exact ⟨by simp, rfl⟩
set_option maxHeartbeats 400000 in
theorem get_any (x : UInt8) (r : List UInt8) (O : Nat → Prop) (v : Value) (w : World) (h : Sl kU8 w O v (x :: r)) (hx : 1 ≤ vlen x) (hx2 : vlen x ≤ r.length + 1) :
    Calls Try.prog 10 #[v] w fun e w' => ∃ v', e = .returned (.tuple #[.int .i64 (vget (x :: r)).1, v', .int .i64 (vget (x :: r)).2.2]) ∧ Sl kU8 w' O v' (vget (x :: r)).2.1 ∧ ∃ k, w' = w.drewN k := by
  obtain ⟨A, c, rfl, hl, hc⟩ := h.val
  obtain ⟨ag, ao, rfl, h0⟩ := h.byte (k := 0) (by simp)
  simp only [List.getElem_cons_zero, Nat.add_zero] at h0
  simp only [List.length_cons] at *
  unfold maxLen at hc
  have hb : x.toNat < 256 := UInt8.toNat_lt x
  have hi := fun w => idx_tab x w
  have hv4 : vlen x ≤ 4 := by rcases vlen_div x with ⟨h, h'⟩ | ⟨h, h'⟩ | ⟨h, h'⟩ | ⟨h, h'⟩ <;> omega
  obtain ⟨i, hin, hz, hsz, hby⟩ := inf_u8
  obtain ⟨A', c', hcut, hs⟩ := cut_lh und_bytes hin hsz h (kl := .i64) (kh := .i64) (l := 1) (k := vlen x) (by omega) (by omega) (by simp; omega)
  obtain ⟨A2, c2, hcut2, hs2⟩ := cut_l und_bytes hin hsz h (kl := .i64) (l := vlen x) (by omega) (by simp; omega)
  simp only [Int.toNat_natCast, Int.toNat_one, List.length_cons] at hcut hs hcut2 hs2
  clear hin hz hsz hby
  have H := Lib.hid h
  have HS := Lib.hid hs
  have HS2 := Lib.hid hs2
  clear h hs hs2
  have HG := Lib.hid (vget_ok hx hx2)
  generalize vlen x = k at *
  have hk : ((k : Int) == 0) = false := by rw [beq_eq_false_iff_ne]; omega
  go_enter Try.func10, Try.ntmps10
  go_wp2
  go_loop [6, 35] (fun n i => ∃ j : Nat, j ≤ k - 1 ∧ i = .int .i64 j ∧ n = .int .i64 (beNum (x.toNat % 64 : Int) (r.take j))) (fun _ i => k - (intOf i).toNat)
  case atStart => exact ⟨0, by omega, rfl, rfl⟩
  case round =>
    obtain ⟨j, hj, rfl, rfl⟩ := hrel
    obtain ⟨b0, b1⟩ := beNum_bd3 (x.toNat % 64 : Int) (r.take j) (by omega) (by omega) (by rw [List.length_take]; omega)
    by_cases hlt : j < k - 1
    · have hx := HS.out
      obtain ⟨g', o', rfl, hcell⟩ := hx.byte (k := j) (by simp; omega)
      clear hx
      simp at hcell
      have HT := Lib.hid (beNum_take (x.toNat % 64 : Int) r j (by omega))
      have hor := or_byte (beNum (x.toNat % 64 : Int) (r.take j)) r[j] b0 (by omega)
      have hb2 : r[j].toNat < 256 := UInt8.toNat_lt _
      go_wp2
      go_round
      case rel => exact ⟨j + 1, by omega, by go_num, by rw [HT.out]⟩
      case measure => simp [intOf]; omega
    · obtain rfl : j = k - 1 := by omega
      clear hlt hj
      by_cases hv : vsize (beNum (x.toNat % 64 : Int) (r.take (k - 1))) = k
      · have hv' : (vsize (beNum (x.toNat % 64 : Int) (r.take (k - 1))) != k) = false := by simp [hv]
        have HV := Lib.hid hv
        clear hv
        go_wp2_with (go_at_call 12; refine (size_calls _ _).mono ?_; rintro e w' ⟨rfl, rfl⟩)
        go_quiet (fail)
        go_wp2
        go_ret3
        have hg := HG.out
        rw [if_neg (by simp [HV.out])] at hg
        rw [hg]
        exact ⟨_, rfl, HS2.out.keep (by decide) (Keeps.drewN _ _ _), _, rfl⟩
      · have hv' : (vsize (beNum (x.toNat % 64 : Int) (r.take (k - 1))) != k) = true := by simp [hv]
        have hg := HG.out
        rw [if_pos hv] at hg
        have HG := Lib.hid hg
        clear hv hg
        go_wp2_with (go_at_call 12; refine (size_calls _ _).mono ?_; rintro e w' ⟨rfl, rfl⟩)
        go_ret3
        rw [HG.out]
        exact ⟨_, rfl, Sl.nil_ _ _ _, 0, rfl⟩
/-- varint.Get, whatever comes. -/
theorem get_calls (b : List UInt8) (O : Nat → Prop) (v : Value) (w : World) (h : Sl kU8 w O v b) :
    Calls Try.prog 10 #[v] w fun e w' => ∃ v', e = .returned (.tuple #[.int .i64 (vget b).1, v', .int .i64 (vget b).2.2]) ∧ Sl kU8 w' O v' (vget b).2.1 ∧ ∃ k, w' = w.drewN k := by
  cases b with
  | nil => exact (get_nil O v w h).mono fun e w' ⟨he, hw⟩ => ⟨_, he, Sl.nil_ _ _ _, 0, hw.symm⟩
  | cons x r =>
    by_cases hx : vlen x = 0 ∨ r.length + 1 < vlen x
    · refine (get_bad x r O v w h hx).mono fun e w' ⟨he, hw⟩ => ?_
      rw [vget_bad hx]
      exact ⟨_, he, Sl.nil_ _ _ _, 0, hw.symm⟩
    · exact get_any x r O v w h (by omega) (by omega)
theorem get_below (b : List UInt8) (O : Nat → Prop) (v : Value) (w : World) (h : Sl kU8 w O v b) :
    Calls Try.prog 10 #[v] w fun e w' => ∃ v', e = .returned (.tuple #[.int .i64 (vget b).1, v', .int .i64 (vget b).2.2]) ∧ Sl kU8 w' O v' (vget b).2.1 ∧ Below w.heap.size w w' :=
  (get_calls b O v w h).mono fun e w' ⟨v', he, hs, k, hk⟩ => ⟨v', he, hs, by rw [hk]; exact ⟨rfl, rfl, rfl, Nat.le_refl _, fun _ _ => rfl⟩⟩
end Go.Proofs.Ythcoccoanpmhgaa
