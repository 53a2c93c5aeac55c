/- Layer 1, walked: varint.Put. -/
import Derived.Test.YthcoccoanpmhgaaVar
import Derived.Test.YthcoccoanpmhgaaClone
namespace Go.Proofs.Ythcoccoanpmhgaa
open Go.RowKit
set_option linter.unusedVariables false
set_option linter.unusedSimpArgs false
set_option maxHeartbeats 400000 in
theorem put_calls (b : List UInt8) (n : Int) (O : Nat → Prop) (v : Value) (w : World) (h : Sl kU8 w O v b) (hb : b.length ≤ 140737488355000) :
    Calls Try.prog 14 #[v, .int .i64 n] w fun e w' => ∃ v', e = .returned v' ∧ Out kU8 5 w w' (fun _ => False) v' (b ++ vput n) := by
  obtain ⟨i, hin, hz, hsz, hby⟩ := inf_u8
  have H := Lib.hid h
  clear h
  by_cases h0 : n < 0 ∨ 1073741823 < n
  · have hs : vsize n = 0 := by unfold vsize; rw [if_pos (by omega)]
    have HP : vput n = [] := by unfold vput; rw [if_pos (by omega)]
    rw [HP]; clear HP h0
    go_enter Try.func14, Try.ntmps14
    go_wp2_with (first
      | (go_at_call 16; refine (clone_bytes b O _ _ H.out (by omega)).mono ?_; rintro e w1 ⟨v1, rfl, hown⟩)
      | (go_at_call 12; refine (size_calls _ _).mono ?_; rintro e w' ⟨rfl, rfl⟩))
    go_ret
    exact ⟨_, rfl, by simpa using hown⟩
  have hn : 0 ≤ n := by omega
  have hn2 : n ≤ 1073741823 := by omega
  by_cases h1 : n < 64
  · have hs : vsize n = 1 := by unfold vsize; rw [if_neg (by omega), if_pos h1]
    have HP : vput n = [u8of n] := by unfold vput; rw [if_neg (by omega), if_pos h1]
    rw [HP]; clear HP h0
    go_enter Try.func14, Try.ntmps14
    go_wp2_with (first
      | (go_at_call 16; refine (clone_bytes b O _ _ H.out (by omega)).mono ?_; rintro e w1 ⟨v1, rfl, hown⟩)
      | (go_at_call 12; refine (size_calls _ _).mono ?_; rintro e w' ⟨rfl, rfl⟩)
      | (at_builtin; refine wpList_append_lit (ys := [u8of n]) rfl _ _ _ (by rfl) und_bytes hin hz hsz rfl (by decide) (by rfl) hown (fun _ h => h.elim) (by rfl) rfl (Reps.u8_map.2 (by simp [u8of_nat] <;> omega)) (by unfold maxLen; simp; omega) (by rw [hby]; simp; omega) ?_; intro v2 w2 hown2 hgr2 hat2))
    go_ret
    exact ⟨_, rfl, hown2⟩
  by_cases h2 : n < 16384
  · have hs : vsize n = 2 := by unfold vsize; rw [if_neg (by omega), if_neg h1, if_pos h2]
    have HP : vput n = [u8of (64 + n / 256), u8of n] := by unfold vput; rw [if_neg (by omega), if_neg h1, if_pos h2]
    rw [HP]; clear HP h0
    go_enter Try.func14, Try.ntmps14
    go_wp2_with (first
      | (go_at_call 16; refine (clone_bytes b O _ _ H.out (by omega)).mono ?_; rintro e w1 ⟨v1, rfl, hown⟩)
      | (go_at_call 12; refine (size_calls _ _).mono ?_; rintro e w' ⟨rfl, rfl⟩)
      | (at_builtin; refine wpList_append_lit (ys := [u8of (64 + n / 256)]) rfl _ _ _ (by rfl) und_bytes hin hz hsz rfl (by decide) (by rfl) hown (fun _ h => h.elim) (by rfl) rfl (Reps.u8_map.2 (by simp [u8of_nat] <;> omega)) (by unfold maxLen; simp; omega) (by rw [hby]; simp; omega) ?_; intro v2 w2 hown2 hgr2 hat2)
      | (at_builtin; refine wpList_append_lit (ys := [u8of n]) rfl _ _ _ (by rfl) und_bytes hin hz hsz rfl (by decide) (by rfl) hown2 (fun _ h => h.elim) (by rfl) rfl (Reps.u8_map.2 (by simp [u8of_nat] <;> omega)) (by unfold maxLen; simp; omega) (by rw [hby]; simp; omega) ?_; intro v3 w3 hown3 hgr3 hat3))
    go_ret
    exact ⟨_, rfl, by simpa using hown3⟩
  have hs : vsize n = 4 := by unfold vsize; rw [if_neg (by omega), if_neg h1, if_neg h2]
  have HP : vput n = [u8of (128 + n / 16777216), u8of (n / 65536), u8of (n / 256), u8of n] := by unfold vput; rw [if_neg (by omega), if_neg h1, if_neg h2]
  rw [HP]; clear HP h0
  go_enter Try.func14, Try.ntmps14
  go_wp2_with (first
      | (go_at_call 16; refine (clone_bytes b O _ _ H.out (by omega)).mono ?_; rintro e w1 ⟨v1, rfl, hown⟩)
      | (go_at_call 12; refine (size_calls _ _).mono ?_; rintro e w' ⟨rfl, rfl⟩)
      | (at_builtin; refine wpList_append_lit (ys := [u8of (128 + n / 16777216), u8of (n / 65536)]) rfl _ _ _ (by rfl) und_bytes hin hz hsz rfl (by decide) (by rfl) hown (fun _ h => h.elim) (by rfl) rfl (Reps.u8_map.2 (by simp [u8of_nat] <;> omega)) (by unfold maxLen; simp; omega) (by rw [hby]; simp; omega) ?_; intro v2 w2 hown2 hgr2 hat2)
      | (at_builtin; refine wpList_append_lit (ys := [u8of (n / 256)]) rfl _ _ _ (by rfl) und_bytes hin hz hsz rfl (by decide) (by rfl) hown2 (fun _ h => h.elim) (by rfl) rfl (Reps.u8_map.2 (by simp [u8of_nat] <;> omega)) (by unfold maxLen; simp; omega) (by rw [hby]; simp; omega) ?_; intro v3 w3 hown3 hgr3 hat3)
      | (at_builtin; refine wpList_append_lit (ys := [u8of n]) rfl _ _ _ (by rfl) und_bytes hin hz hsz rfl (by decide) (by rfl) hown3 (fun _ h => h.elim) (by rfl) rfl (Reps.u8_map.2 (by simp [u8of_nat] <;> omega)) (by unfold maxLen; simp; omega) (by rw [hby]; simp; omega) ?_; intro v4 w4 hown4 hgr4 hat4))
  go_ret
  exact ⟨_, rfl, by simpa using hown4⟩
end Go.Proofs.Ythcoccoanpmhgaa
