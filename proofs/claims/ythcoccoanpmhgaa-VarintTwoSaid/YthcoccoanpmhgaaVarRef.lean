/- Layer 1, walked: the document's answer. -/
import Derived.Test.YthcoccoanpmhgaaVar
namespace Go.Proofs.Ythcoccoanpmhgaa
open Go.RowKit
set_option linter.unusedVariables false
set_option linter.unusedSimpArgs false
theorem rsize_calls (n : Int) (w : World) : Calls Try.prog 13 #[.int .i64 n] w fun e w' => e = .returned (.int .i64 (vsize n)) ∧ w = w' := by
  go_enter Try.func13, Try.ntmps13
  go_wp2
  all_goals
    go_ret
    refine ⟨ret_int ?_, rfl⟩
    unfold vsize
    repeat' split
    all_goals omega
set_option maxHeartbeats 400000 in
theorem rget_nil (O : Nat → Prop) (v : Value) (w : World) (h : Sl kU8 w O v []) :
    Calls Try.prog 11 #[v] w fun e w' => e = .returned (.tuple #[.int .i64 0, .slice none 0 0, .int .i64 1]) ∧ w = w' := by
  obtain ⟨A, c, rfl, hl, hc⟩ := h.val
  go_enter Try.func11, Try.ntmps11
  go_wp2
  go_ret3
  exact ⟨rfl, rfl⟩
theorem vlen_cases (x : UInt8) : (x.toNat < 64 ∧ vlen x = 1) ∨ (64 ≤ x.toNat ∧ x.toNat < 128 ∧ vlen x = 2) ∨ (128 ≤ x.toNat ∧ x.toNat < 192 ∧ vlen x = 4) ∨ (192 ≤ x.toNat ∧ vlen x = 0) := by
  unfold vlen
  (repeat' split) <;> omega
set_option maxRecDepth 100000 in
set_option maxHeartbeats 800000 in
theorem rget_bad (x : UInt8) (r : List UInt8) (O : Nat → Prop) (v : Value) (w : World) (h : Sl kU8 w O v (x :: r)) (hbad : vlen x = 0 ∨ r.length + 1 < vlen x) :
    Calls Try.prog 11 #[v] w fun e w' => e = .returned (.tuple #[.int .i64 0, .slice none 0 0, .int .i64 (if vlen x = 0 then 2 else 1)]) ∧ w = w' := by
  obtain ⟨A, c, rfl, hl, hc⟩ := h.val
  obtain ⟨ag, ao, rfl, h0⟩ := h.byte (k := 0) (by simp)
  simp only [List.getElem_cons_zero, Nat.add_zero] at h0
  simp only [List.length_cons] at *
  unfold maxLen at hc
  have hb : x.toNat < 256 := UInt8.toNat_lt x
  clear h
  rcases vlen_cases x with ⟨hx, hk⟩ | ⟨hx, hx2, hk⟩ | ⟨hx, hx2, hk⟩ | ⟨hx, hk⟩
  · omega
  all_goals
    rw [hk] at hbad ⊢
    clear hk
    try (have hb3 : r.length + 1 < 4 := by omega)
    try (have hb4 : r.length + 1 < 2 := by omega)
    clear hbad
    go_enter Try.func11, Try.ntmps11
    go_wp2
    go_ret3
    exact ⟨by simp, rfl⟩
set_option maxRecDepth 100000 in
set_option maxHeartbeats 800000 in
theorem rget_1 (x : UInt8) (r : List UInt8) (O : Nat → Prop) (v : Value) (w : World) (h : Sl kU8 w O v (x :: r)) (hk : vlen x = 1) (hx1 : 0 ≤ x.toNat) (hx2 : x.toNat < 64) (h2 : 1 ≤ r.length + 1) :
    Calls Try.prog 11 #[v] w fun e w' => ∃ v', e = .returned (.tuple #[.int .i64 (vget (x :: r)).1, v', .int .i64 (vget (x :: r)).2.2]) ∧ Sl kU8 w' O v' (vget (x :: r)).2.1 ∧ ∃ k, w' = w.drewN k := by
  obtain ⟨A, c, rfl, hl, hc⟩ := h.val
  obtain ⟨ag, ao, rfl, h0⟩ := h.byte (k := 0) (by simp)
  simp only [List.getElem_cons_zero, Nat.add_zero] at h0
  obtain ⟨i, hin, hz, hsz, hby⟩ := inf_u8
  obtain ⟨A2, c2, hcut2, hs2⟩ := cut_l und_bytes hin hsz h (kl := .i64) (l := 1) (by omega) (by simp; omega)
  have hg := vget_ok (x := x) (r := r) (by omega) (by omega)
  simp only [hk, Nat.reduceSub] at hg
  have HG := Lib.hid hg
  simp only [List.length_cons] at *
  simp at hcut2 hs2
  unfold maxLen at hc
  have hb : x.toNat < 256 := UInt8.toNat_lt x
  have H := Lib.hid h
  have HS2 := Lib.hid hs2
  clear hin hz hsz hby hs2 h hg hk
  go_enter Try.func11, Try.ntmps11
  go_wp2
  go_loop [6, 7] (fun n i => ∃ j : Nat, j + 1 ≤ 1 ∧ i = .int .i64 (j + 1 : Nat) ∧ n = .int .i64 (beNum (x.toNat % 64 : Int) (r.take j))) (fun _ i => 1 - (intOf i).toNat)
  case atStart => exact ⟨0, by omega, rfl, by simp [beNum]⟩
  case round =>
    obtain ⟨j, hj, rfl, rfl⟩ := hrel
    obtain ⟨b0, b1⟩ := beNum_bd3 (x.toNat % 64 : Int) (r.take j) (by omega) (by omega) (by rw [List.length_take]; omega)
    by_cases hlt : j + 1 < 1
    · omega
    · obtain rfl : j = 0 := by omega
      clear hlt hj
      generalize beNum (x.toNat % 64 : Int) (r.take 0) = n at *
      by_cases hv : vsize n = 1
      · have hg := HG.out
        rw [if_neg (by simp [hv])] at hg
        have HG := Lib.hid hg
        clear hg
        have hv' := bne_eq_false_iff_eq.2 hv
        clear hv
        go_wp2_with (go_at_call 13; refine (rsize_calls _ _).mono ?_; rintro e w' ⟨rfl, rfl⟩)
        go_quiet (fail)
        go_wp2
        go_ret3
        rw [HG.out]
        exact ⟨_, rfl, by simpa using HS2.out.keep (by decide) (Keeps.drewN _ _ _), _, rfl⟩
      · have hg := HG.out
        rw [if_pos (by simpa using hv)] at hg
        have HG := Lib.hid hg
        clear hg
        have hv' := bne_iff_ne.2 hv
        clear hv
        go_wp2_with (go_at_call 13; refine (rsize_calls _ _).mono ?_; rintro e w' ⟨rfl, rfl⟩)
        go_ret3
        rw [HG.out]
        exact ⟨_, rfl, Sl.nil_ _ _ _, 0, rfl⟩
set_option maxRecDepth 100000 in
set_option maxHeartbeats 800000 in
theorem rget_2 (x : UInt8) (r : List UInt8) (O : Nat → Prop) (v : Value) (w : World) (h : Sl kU8 w O v (x :: r)) (hk : vlen x = 2) (hx1 : 64 ≤ x.toNat) (hx2 : x.toNat < 128) (h2 : 2 ≤ r.length + 1) :
    Calls Try.prog 11 #[v] w fun e w' => ∃ v', e = .returned (.tuple #[.int .i64 (vget (x :: r)).1, v', .int .i64 (vget (x :: r)).2.2]) ∧ Sl kU8 w' O v' (vget (x :: r)).2.1 ∧ ∃ k, w' = w.drewN k := by
  obtain ⟨A, c, rfl, hl, hc⟩ := h.val
  obtain ⟨ag, ao, rfl, h0⟩ := h.byte (k := 0) (by simp)
  simp only [List.getElem_cons_zero, Nat.add_zero] at h0
  obtain ⟨i, hin, hz, hsz, hby⟩ := inf_u8
  obtain ⟨A2, c2, hcut2, hs2⟩ := cut_l und_bytes hin hsz h (kl := .i64) (l := 2) (by omega) (by simp; omega)
  have hg := vget_ok (x := x) (r := r) (by omega) (by omega)
  simp only [hk, Nat.reduceSub] at hg
  have HG := Lib.hid hg
  simp only [List.length_cons] at *
  simp at hcut2 hs2
  unfold maxLen at hc
  have hb : x.toNat < 256 := UInt8.toNat_lt x
  have H := Lib.hid h
  have HS2 := Lib.hid hs2
  clear hin hz hsz hby hs2 h hg hk
  go_enter Try.func11, Try.ntmps11
  go_wp2
  go_loop [6, 7] (fun n i => ∃ j : Nat, j + 1 ≤ 2 ∧ i = .int .i64 (j + 1 : Nat) ∧ n = .int .i64 (beNum (x.toNat % 64 : Int) (r.take j))) (fun _ i => 2 - (intOf i).toNat)
  case atStart => exact ⟨0, by omega, rfl, by simp [beNum]⟩
  case round =>
    obtain ⟨j, hj, rfl, rfl⟩ := hrel
    obtain ⟨b0, b1⟩ := beNum_bd3 (x.toNat % 64 : Int) (r.take j) (by omega) (by omega) (by rw [List.length_take]; omega)
    by_cases hlt : j + 1 < 2
    · have hx := H.out
      have hcell := hx.byte' (k := j + 1) (by simp; omega)
      clear hx
      simp at hcell
      have HT := Lib.hid (beNum_take (x.toNat % 64 : Int) r j (by omega))
      have hb2 : r[j].toNat < 256 := UInt8.toNat_lt _
      go_wp2
      go_round
      case rel => exact ⟨j + 1, by omega, by go_num, by rw [HT.out]⟩
      case measure => simp [intOf]; omega
    · obtain rfl : j = 1 := by omega
      clear hlt hj
      generalize beNum (x.toNat % 64 : Int) (r.take 1) = n at *
      by_cases hv : vsize n = 2
      · have hg := HG.out
        rw [if_neg (by simp [hv])] at hg
        have HG := Lib.hid hg
        clear hg
        have hv' := bne_eq_false_iff_eq.2 hv
        clear hv
        go_wp2_with (go_at_call 13; refine (rsize_calls _ _).mono ?_; rintro e w' ⟨rfl, rfl⟩)
        go_quiet (fail)
        go_wp2
        go_ret3
        rw [HG.out]
        exact ⟨_, rfl, by simpa using HS2.out.keep (by decide) (Keeps.drewN _ _ _), _, rfl⟩
      · have hg := HG.out
        rw [if_pos (by simpa using hv)] at hg
        have HG := Lib.hid hg
        clear hg
        have hv' := bne_iff_ne.2 hv
        clear hv
        go_wp2_with (go_at_call 13; refine (rsize_calls _ _).mono ?_; rintro e w' ⟨rfl, rfl⟩)
        go_ret3
        rw [HG.out]
        exact ⟨_, rfl, Sl.nil_ _ _ _, 0, rfl⟩
set_option maxRecDepth 100000 in
set_option maxHeartbeats 800000 in
theorem rget_4 (x : UInt8) (r : List UInt8) (O : Nat → Prop) (v : Value) (w : World) (h : Sl kU8 w O v (x :: r)) (hk : vlen x = 4) (hx1 : 128 ≤ x.toNat) (hx2 : x.toNat < 192) (h2 : 4 ≤ r.length + 1) :
    Calls Try.prog 11 #[v] w fun e w' => ∃ v', e = .returned (.tuple #[.int .i64 (vget (x :: r)).1, v', .int .i64 (vget (x :: r)).2.2]) ∧ Sl kU8 w' O v' (vget (x :: r)).2.1 ∧ ∃ k, w' = w.drewN k := by
  obtain ⟨A, c, rfl, hl, hc⟩ := h.val
  obtain ⟨ag, ao, rfl, h0⟩ := h.byte (k := 0) (by simp)
  simp only [List.getElem_cons_zero, Nat.add_zero] at h0
  obtain ⟨i, hin, hz, hsz, hby⟩ := inf_u8
  obtain ⟨A2, c2, hcut2, hs2⟩ := cut_l und_bytes hin hsz h (kl := .i64) (l := 4) (by omega) (by simp; omega)
  have hg := vget_ok (x := x) (r := r) (by omega) (by omega)
  simp only [hk, Nat.reduceSub] at hg
  have HG := Lib.hid hg
  simp only [List.length_cons] at *
  simp at hcut2 hs2
  unfold maxLen at hc
  have hb : x.toNat < 256 := UInt8.toNat_lt x
  have H := Lib.hid h
  have HS2 := Lib.hid hs2
  clear hin hz hsz hby hs2 h hg hk
  go_enter Try.func11, Try.ntmps11
  go_wp2
  go_loop [6, 7] (fun n i => ∃ j : Nat, j + 1 ≤ 4 ∧ i = .int .i64 (j + 1 : Nat) ∧ n = .int .i64 (beNum (x.toNat % 64 : Int) (r.take j))) (fun _ i => 4 - (intOf i).toNat)
  case atStart => exact ⟨0, by omega, rfl, by simp [beNum]⟩
  case round =>
    obtain ⟨j, hj, rfl, rfl⟩ := hrel
    obtain ⟨b0, b1⟩ := beNum_bd3 (x.toNat % 64 : Int) (r.take j) (by omega) (by omega) (by rw [List.length_take]; omega)
    by_cases hlt : j + 1 < 4
    · have hx := H.out
      have hcell := hx.byte' (k := j + 1) (by simp; omega)
      clear hx
      simp at hcell
      have HT := Lib.hid (beNum_take (x.toNat % 64 : Int) r j (by omega))
      have hb2 : r[j].toNat < 256 := UInt8.toNat_lt _
      go_wp2
      go_round
      case rel => exact ⟨j + 1, by omega, by go_num, by rw [HT.out]⟩
      case measure => simp [intOf]; omega
    · obtain rfl : j = 3 := by omega
      clear hlt hj
      generalize beNum (x.toNat % 64 : Int) (r.take 3) = n at *
      by_cases hv : vsize n = 4
      · have hg := HG.out
        rw [if_neg (by simp [hv])] at hg
        have HG := Lib.hid hg
        clear hg
        have hv' := bne_eq_false_iff_eq.2 hv
        clear hv
        go_wp2_with (go_at_call 13; refine (rsize_calls _ _).mono ?_; rintro e w' ⟨rfl, rfl⟩)
        go_quiet (fail)
        go_wp2
        go_ret3
        rw [HG.out]
        exact ⟨_, rfl, by simpa using HS2.out.keep (by decide) (Keeps.drewN _ _ _), _, rfl⟩
      · have hg := HG.out
        rw [if_pos (by simpa using hv)] at hg
        have HG := Lib.hid hg
        clear hg
        have hv' := bne_iff_ne.2 hv
        clear hv
        go_wp2_with (go_at_call 13; refine (rsize_calls _ _).mono ?_; rintro e w' ⟨rfl, rfl⟩)
        go_ret3
        rw [HG.out]
        exact ⟨_, rfl, Sl.nil_ _ _ _, 0, rfl⟩
theorem rget_calls (b : List UInt8) (O : Nat → Prop) (v : Value) (w : World) (h : Sl kU8 w O v b) :
    Calls Try.prog 11 #[v] w fun e w' => ∃ v', e = .returned (.tuple #[.int .i64 (vget b).1, v', .int .i64 (vget b).2.2]) ∧ Sl kU8 w' O v' (vget b).2.1 ∧ ∃ k, w' = w.drewN k := by
  cases b with
  | nil => exact (rget_nil O v w h).mono fun e w' ⟨he, hw⟩ => ⟨_, he, Sl.nil_ _ _ _, 0, hw.symm⟩
  | cons x r =>
    by_cases hx : vlen x = 0 ∨ r.length + 1 < vlen x
    · refine (rget_bad x r O v w h hx).mono fun e w' ⟨he, hw⟩ => ?_
      rw [vget_bad hx]
      exact ⟨_, he, Sl.nil_ _ _ _, 0, hw.symm⟩
    · rcases vlen_cases x with ⟨h1, hk⟩ | ⟨h1, h2, hk⟩ | ⟨h1, h2, hk⟩ | ⟨h1, hk⟩
      · exact rget_1 x r O v w h hk (by omega) h1 (by omega)
      · exact rget_2 x r O v w h hk h1 h2 (by omega)
      · exact rget_4 x r O v w h hk h1 h2 (by omega)
      · exact absurd (.inl hk) hx
set_option maxHeartbeats 400000 in
theorem rput_calls (b : List UInt8) (n : Int) (O : Nat → Prop) (v : Value) (w : World) (h : Sl kU8 w O v b) (hb : b.length ≤ 140737488355000) :
    Calls Try.prog 15 #[v, .int .i64 n] w fun e w' => ∃ v', e = .returned v' ∧ Out kU8 5 w w' (fun _ => False) v' (b ++ vput n) := by
  obtain ⟨i, hin, hz, hsz, hby⟩ := inf_u8
  have hown := Out.made (d := kU8) (e := 5) (O := fun _ => False) (Below.refl w.heap.size w)
  have h1 := hown.par (by decide) (h.anti (O' := fun _ => False) (fun _ h => h.elim))
  have H1 := Lib.hid h1
  clear h h1
  by_cases h0 : n < 0 ∨ 1073741823 < n
  · have hs : vsize n = 0 := by unfold vsize; rw [if_pos (by omega)]
    have HP : vput n = [] := by unfold vput; rw [if_pos (by omega)]
    rw [HP]; clear HP h0
    go_enter Try.func15, Try.ntmps15
    go_wp2_with (first
      | (go_at_call 13; refine (rsize_calls _ _).mono ?_; rintro e w' ⟨rfl, rfl⟩)
      | (at_builtin; refine wpList_append_any rfl _ _ _ (by rfl) und_bytes hin hz hsz rfl (by decide) (by rfl) hown (by rfl) H1.out (by unfold maxLen; simp; omega) (by rw [hby]; simp; omega) ?_; intro v1 w1 hown1 hgr hat)
)
    go_ret
    exact ⟨_, rfl, by simpa using hown1⟩
  by_cases h1 : n < 64
  · have hs : vsize n = 1 := by unfold vsize; rw [if_neg (by omega), if_pos h1]
    have HP : vput n = [u8of n] := by unfold vput; rw [if_neg (by omega), if_pos h1]
    have hn : 0 ≤ n := by omega
    have hn2 : n ≤ 1073741823 := by omega
    rw [HP]; clear HP h0
    go_enter Try.func15, Try.ntmps15
    go_wp2_with (first
      | (go_at_call 13; refine (rsize_calls _ _).mono ?_; rintro e w' ⟨rfl, rfl⟩)
      | (at_builtin; refine wpList_append_any rfl _ _ _ (by rfl) und_bytes hin hz hsz rfl (by decide) (by rfl) hown (by rfl) H1.out (by unfold maxLen; simp; omega) (by rw [hby]; simp; omega) ?_; intro v1 w1 hown1 hgr hat)
      | (at_builtin; refine wpList_append_lit (ys := [u8of n]) rfl _ _ _ (by rfl) und_bytes hin hz hsz rfl (by decide) (by rfl) hown1 (fun _ h => h.elim) (by rfl) rfl (Reps.u8_map.2 (by simp [u8of_nat] <;> omega)) (by unfold maxLen; simp; omega) (by rw [hby]; simp; omega) ?_; intro v2 w2 hown2 hgr2 hat2))
    go_ret
    exact ⟨_, rfl, by simpa using hown2⟩
  by_cases h2 : n < 16384
  · have hs : vsize n = 2 := by unfold vsize; rw [if_neg (by omega), if_neg h1, if_pos h2]
    have HP : vput n = [u8of (64 + n / 256), u8of n] := by unfold vput; rw [if_neg (by omega), if_neg h1, if_pos h2]
    have hn : 0 ≤ n := by omega
    have hn2 : n ≤ 1073741823 := by omega
    rw [HP]; clear HP h0
    go_enter Try.func15, Try.ntmps15
    go_wp2_with (first
      | (go_at_call 13; refine (rsize_calls _ _).mono ?_; rintro e w' ⟨rfl, rfl⟩)
      | (at_builtin; refine wpList_append_any rfl _ _ _ (by rfl) und_bytes hin hz hsz rfl (by decide) (by rfl) hown (by rfl) H1.out (by unfold maxLen; simp; omega) (by rw [hby]; simp; omega) ?_; intro v1 w1 hown1 hgr hat)
      | (at_builtin; refine wpList_append_lit (ys := [u8of (64 + n / 256), u8of n]) rfl _ _ _ (by rfl) und_bytes hin hz hsz rfl (by decide) (by rfl) hown1 (fun _ h => h.elim) (by rfl) rfl (Reps.u8_map.2 (by simp [u8of_nat] <;> omega)) (by unfold maxLen; simp; omega) (by rw [hby]; simp; omega) ?_; intro v2 w2 hown2 hgr2 hat2))
    go_ret
    exact ⟨_, rfl, by simpa using hown2⟩
  have hs : vsize n = 4 := by unfold vsize; rw [if_neg (by omega), if_neg h1, if_neg h2]
  have HP : vput n = [u8of (128 + n / 16777216), u8of (n / 65536), u8of (n / 256), u8of n] := by unfold vput; rw [if_neg (by omega), if_neg h1, if_neg h2]
  have hn : 0 ≤ n := by omega
  have hn2 : n ≤ 1073741823 := by omega
  rw [HP]; clear HP h0
  go_enter Try.func15, Try.ntmps15
  go_wp2_with (first
      | (go_at_call 13; refine (rsize_calls _ _).mono ?_; rintro e w' ⟨rfl, rfl⟩)
      | (at_builtin; refine wpList_append_any rfl _ _ _ (by rfl) und_bytes hin hz hsz rfl (by decide) (by rfl) hown (by rfl) H1.out (by unfold maxLen; simp; omega) (by rw [hby]; simp; omega) ?_; intro v1 w1 hown1 hgr hat)
      | (at_builtin; refine wpList_append_lit (ys := [u8of (128 + n / 16777216), u8of (n / 65536), u8of (n / 256), u8of n]) rfl _ _ _ (by rfl) und_bytes hin hz hsz rfl (by decide) (by rfl) hown1 (fun _ h => h.elim) (by rfl) rfl (Reps.u8_map.2 (by simp [u8of_nat] <;> omega)) (by unfold maxLen; simp; omega) (by rw [hby]; simp; omega) ?_; intro v2 w2 hown2 hgr2 hat2))
  go_ret
  exact ⟨_, rfl, by simpa using hown2⟩
theorem rget_below (b : List UInt8) (O : Nat → Prop) (v : Value) (w : World) (h : Sl kU8 w O v b) :
    Calls Try.prog 11 #[v] w fun e w' => ∃ v', e = .returned (.tuple #[.int .i64 (vget b).1, v', .int .i64 (vget b).2.2]) ∧ Sl kU8 w' O v' (vget b).2.1 ∧ Below w.heap.size w w' :=
  (rget_calls b O v w h).mono fun e w' ⟨v', he, hs, k, hk⟩ => ⟨v', he, hs, by rw [hk]; exact ⟨rfl, rfl, rfl, Nat.le_refl _, fun _ _ => rfl⟩⟩
end Go.Proofs.Ythcoccoanpmhgaa
