/- Layer 1: what is put is got, walked. -/
import Derived.Test.YthcoccoanpmhgaaVarPure3
import Derived.Test.YthcoccoanpmhgaaVarLaw
namespace Go.Proofs.Ythcoccoanpmhgaa
open Go.RowKit
set_option linter.unusedVariables false
set_option linter.unusedSimpArgs false
set_option maxHeartbeats 2000000 in
set_option maxRecDepth 100000 in
theorem law_back (n : Int) (b : List UInt8) (v : Value) (w : World) (h : Sl kU8 w (fun _ => False) v b) :
    Calls Try.prog 4 #[.int .i64 n, v] w fun e w' => e = .returned (.bool true) ∧ Below w.heap.size w w' := by
  obtain ⟨A, c, rfl, hl, hc⟩ := h.val
  have H := Lib.hid h
  clear h
  have hk : vsize n = ((vput n).length : Int) := (vput_len n).symm
  by_cases h1 : 1000 < b.length
  ·
    go_enter Try.func4, Try.ntmps4
    go_wp2_with (first
      | (go_at_call 9; refine (awake_calls _).mono ?_; rintro e w1 ⟨rfl, hb1⟩)
      | (go_at_call 12; refine (size_calls _ _).mono ?_; rintro e w' ⟨rfl, rfl⟩)
      | (go_at_call 14; refine (put_calls [] n (fun _ => False) _ _ (Sl.nil_ _ _ _) (by simp)).mono ?_; rintro e w2 ⟨v2, rfl, ho2⟩; obtain ⟨A2, c2, rfl, _, _⟩ := ho2.val))
    go_ret
    exact ⟨by simp, Bel.trans _ _ _ hb1 ho2.2⟩
  have h2 : b.length ≤ 1000 := by omega
  by_cases hs : vsize n = 0
  · obtain ⟨hp, hq⟩ := vput_none hs
    have h0 : (vput n).length = 0 := by rw [hp]; rfl
    clear hs hp
    rcases hq with hq | hq
    all_goals
      go_enter Try.func4, Try.ntmps4
      go_wp2_with (first
        | (go_at_call 9; refine (awake_calls _).mono ?_; rintro e w1 ⟨rfl, hb1⟩)
        | (go_at_call 12; refine (size_calls _ _).mono ?_; rintro e w' ⟨rfl, rfl⟩)
        | (go_at_call 14; refine (put_calls [] n (fun _ => False) _ _ (Sl.nil_ _ _ _) (by simp)).mono ?_; rintro e w2 ⟨v2, rfl, ho2⟩; obtain ⟨A2, c2, rfl, _, _⟩ := ho2.val))
      go_ret
      exact ⟨by simp <;> omega, Bel.trans _ _ _ hb1 ho2.2⟩
  have h4 : (vput n).length ≤ 4 := vput_len4 n
  have h0 : ((vput n).length == 0) = false := by rw [beq_eq_false_iff_ne]; omega
  have h0' : (((vput n).length : Int) == 0) = false := by rw [beq_eq_false_iff_ne]; omega
  have HC := Lib.hid (vget_cut n)
  have HG := Lib.hid (vget_put n b hs)
  clear hs
  go_enter Try.func4, Try.ntmps4
  go_wp2_with (first
    | (go_at_call 9; refine (awake_calls _).mono ?_; rintro e w1 ⟨rfl, hb1⟩)
    | (go_at_call 12; refine (size_calls _ _).mono ?_; rintro e w' ⟨rfl, rfl⟩)
    | (go_at_call 14; refine (put_calls [] n (fun _ => False) _ _ (Sl.nil_ _ _ _) (by simp)).mono ?_; rintro e w2 ⟨v2, rfl, ho2⟩; obtain ⟨A2, c2, rfl, _, _⟩ := ho2.val))
  have hb := Bel.trans _ _ _ hb1 ho2.2
  have hs2 := ho2.sl (fun _ h => h.elim)
  simp only [List.nil_append] at hs2
  have HB := Lib.hid hb
  have HS2 := Lib.hid hs2
  clear hb hs2 ho2 hb1
  go_loopw [8] (fun i wr => ∃ j : Nat, i = .int .i64 j ∧ j ≤ (vput n).length ∧ Below w2.heap.size w2 wr) (fun i _ => (vput n).length - (intOf i).toNat)
  case atStart => exact ⟨0, rfl, by omega, Below.refl _ _⟩
  case round =>
    obtain ⟨j, rfl, hj, hbr⟩ := hrel
    have HBR := Lib.hid hbr
    by_cases hlt : j < (vput n).length
    · have hs3 := HS2.out.keep (by decide) (keeps_of hbr _)
      obtain ⟨A3, c3, hcut, hs3'⟩ := cut_h und_bytes inf_u8.choose_spec.1 inf_u8.choose_spec.2.2.1 hs3 (kh := .i64) (k := (j : Int)) (by omega) (by omega)
      have HS3 := Lib.hid hs3'
      clear hs3 hs3' hbr
      have HG3 := Lib.hid (HC.out j hlt)
      simp only [Int.toNat_natCast] at HS3 hcut
      go_wp2_with (first
        | (go_at_call 10; refine (get_below _ _ _ _ HS3.out).mono ?_; rw [HG3.out]; rintro e w4 ⟨v4, rfl, hs4, hb4⟩))
      go_roundw
      case rel =>
        exact ⟨j + 1, by go_num, by omega, HBR.out.trans (hb4.mono HBR.out.size)⟩
      case measure => simp [intOf]; omega
    · obtain rfl : j = (vput n).length := by omega
      clear hbr
      have hb0 : Below w.heap.size w wr := Bel.trans _ _ _ HB.out HBR.out
      have HB0 := Lib.hid hb0
      have hs4 := H.out.keep (by decide) (keeps_of hb0 _)
      have HS4 := Lib.hid hs4
      have HG4 := Lib.hid (show vget ([] ++ vput n ++ b) = (n, b, 0) from by simpa using HG.out)
      clear hb0 hs4
      obtain ⟨i, hin, hz, hsz, hby⟩ := inf_u8
      go_wp2_with (first
        | (at_builtin; refine wpList_append_any (ys := vput n) (w0 := wr) (e := 5) (d := kU8) (O := fun _ => False) rfl _ _ _ (by rfl) und_bytes hin hz hsz rfl (by decide) (by rfl) (Out.made (Below.refl _ _)) (by rfl) (Out.par (d := kU8) (Out.made (Below.refl _ _)) (by decide) (HS2.out.keep (by decide) (keeps_of HBR.out _))) (by unfold maxLen; simp; omega) (by rw [hby]; simp; omega) ?_; intro v3 w3 hown3 hgr3 hat3)
        | (at_builtin; refine wpList_append_any (ys := b) rfl _ _ _ (by rfl) und_bytes hin hz hsz rfl (by decide) (by rfl) hown3 (by rfl) (Out.par hown3 (by decide) (HS4.out)) (by unfold maxLen; simp; omega) (by rw [hby]; simp; omega) ?_; intro v4 w4 hown4 hgr4 hat4)
        | (go_at_call 10; refine (get_below _ _ _ _ (hown4.sl (fun _ h => h.elim))).mono ?_; rw [HG4.out]; rintro e w5 ⟨v5, rfl, hs5, hb5⟩; have hbz := Bel.trans _ _ _ hown4.2 hb5; have hcvA := conv_str hs5; have hcvB := conv_str (HS4.out.keep (by decide) (keeps_of hbz _)); have HBZ := Lib.hid (HB0.out.trans (hbz.mono HB0.out.size)); obtain ⟨A5, c5, rfl, _, _⟩ := hs5.val; clear hs5 hb5 hbz hown4 hgr4 hat4 hown3 hgr3 hat3))
      go_ret
      exact ⟨by simp, HBZ.out⟩
theorem run_back (w : World) {n : Int} {b : List UInt8} {A : Option Addr} {l c : Nat} (hn : (Lit.int .i64 n).wf = true) (h : Sl kU8 w (fun _ => False) (.slice A l c) b) :
    Calls Try.prog 4 #[.int .i64 n, .slice A l c] w fun e w' => e = .returned (.bool true) ∧ Below w.heap.size w w' := law_back n b _ w h
end Go.Proofs.Ythcoccoanpmhgaa
