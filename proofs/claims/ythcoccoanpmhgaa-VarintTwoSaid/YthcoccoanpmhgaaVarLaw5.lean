/- Layer 1: one number behind the other, walked. -/
import Derived.Test.YthcoccoanpmhgaaVarPure3
import Derived.Test.YthcoccoanpmhgaaVarLaw
namespace Go.Proofs.Ythcoccoanpmhgaa
open Go.RowKit
set_option linter.unusedVariables false
set_option linter.unusedSimpArgs false
theorem Sl.num {w : World} {O : Nat → Prop} {A : Option Addr} {n c k : Nat} {b : List Int} (h : Sl kI64 w O (.slice A n c) b) (hk : k < b.length) :
    ∃ g o, A = some ⟨g, o, none⟩ ∧ w.cell? ⟨g, o + k, none⟩ = some (.int .i64 b[k]) := by
  obtain ⟨g, o, cs, ha, _, hr, hc⟩ := h.cells_at (by decide) hk
  refine ⟨g, o, ha, ?_⟩
  have := hc 0 (.int .i64 b[k]) (by rw [show cs = _ from hr]; rfl)
  simpa [kI64, Kd.cell] using this
theorem Sl.num' {w : World} {O : Nat → Prop} {g o n c k : Nat} {b : List Int} (h : Sl kI64 w O (.slice (some ⟨g, o, none⟩) n c) b) (hk : k < b.length) : w.cell? ⟨g, o + k, none⟩ = some (.int .i64 b[k]) := by
  obtain ⟨g', o', e, h⟩ := h.num hk
  cases e
  exact h
set_option maxHeartbeats 2000000 in
set_option maxRecDepth 100000 in
theorem law_two (l : List Int) (v : Value) (w : World) (h : Sl kI64 w (fun _ => False) v l) :
    Calls Try.prog 7 #[v] w fun e w' => e = .returned (.bool true) ∧ Below w.heap.size w w' := by
  obtain ⟨A, c, rfl, hl, hc⟩ := h.val
  have H := Lib.hid h
  clear h
  go_enter Try.func7, Try.ntmps7
  go_wp2_with (first
    | (go_at_call 9; refine (awake_calls _).mono ?_; rintro e w1 ⟨rfl, hb1⟩))
  have HB := Lib.hid hb1
  clear hb1
  go_loopw [4, 5, 6] (fun b s i wr => ∃ j : Nat, i = .int .i64 j ∧ j ≤ l.length ∧ j ≤ 50 ∧ s = .int .i64 (cat (l.take j)).length ∧ Out kU8 5 w1 wr (fun _ => False) b (cat (l.take j)) ∧ ∀ x ∈ l.take j, vsize x ≠ 0) (fun _ _ i _ => l.length - (intOf i).toNat)
  case atStart => exact ⟨0, rfl, by omega, by omega, rfl, Out.start _ _ _ _, by simp⟩
  case round =>
    obtain ⟨j, rfl, hj, hj2, rfl, hout, hall⟩ := hrel
    have HO := Lib.hid hout
    have HALL := Lib.hid hall
    obtain ⟨A2, c2, rfl, hl2, hc2⟩ := hout.val
    have hb := hout.2
    have HBR := Lib.hid hb
    clear hout hall hb
    by_cases hlt : j < l.length
    · by_cases h50 : j < 50
      · have hs := H.out.keep (by decide) (keeps_of (Bel.trans _ _ _ HB.out HBR.out) _)
        obtain ⟨g, o, rfl, hcell⟩ := hs.num hlt
        have HS := Lib.hid hs
        clear hs
        have HN := Lib.hid (cat_snoc l j hlt)
        have hlen4 := cat_len (l.take j)
        rw [List.length_take] at hlen4
        have HT := Lib.hid (show l.take (j + 1) = l.take j ++ [l[j]] from List.take_succ_eq_append_getElem hlt)
        have hgx : ∃ x, l[j] = x := ⟨_, rfl⟩
        obtain ⟨x, hgx⟩ := hgx
        simp only [hgx] at hcell HN HT
        have HGX := Lib.hid hgx
        clear hgx
        by_cases hx : vsize x = 0
        · go_wp2_with (first
            | (go_at_call 12; refine (size_calls _ _).mono ?_; rintro e w' ⟨rfl, rfl⟩))
          go_ret
          exact ⟨rfl, Bel.trans _ _ _ HB.out HBR.out⟩
        · have hx0 : (vsize x == 0) = false := by rw [beq_eq_false_iff_ne]; exact hx
          have hxl := vput_len x
          have HX := Lib.hid hx
          have hx4 := vput_len4 x
          have hxn : vsize x = ((vput x).length : Int) := hxl.symm
          clear hx hxl
          go_wp2_with (first
            | (go_at_call 12; refine (size_calls _ _).mono ?_; rintro e w' ⟨rfl, rfl⟩)
            | (go_at_call 14; refine (put_calls _ x (fun _ => False) _ _ (HO.out.sl (fun _ h => h.elim)) (by omega)).mono ?_; rintro e w2 ⟨v2, rfl, ho2⟩; have hcell := (HS.out.keep (by decide) (keeps_of ho2.2 _)).num' hlt; simp only [HGX.out] at hcell; have HO2 := Lib.hid ho2; obtain ⟨A3, c3, rfl, _, _⟩ := ho2.val; clear ho2))
          go_roundw
          case rel =>
            refine ⟨j + 1, by go_num, by omega, by omega, ?_, ?_, ?_⟩
            · rw [HN.out]; simp
            · rw [HN.out]; simpa using HO2.out.mono HBR.out
            · rw [HT.out]; intro y hy
              rcases List.mem_append.1 hy with hy | hy
              · exact HALL.out y hy
              · rw [List.mem_singleton.1 hy]; exact HX.out
          case measure => simp [intOf]; omega
      ·
        have hs := HO.out.sl (fun _ h => h.elim)
        have HS := Lib.hid hs
        clear hs
        have hm0 := cat_len (l.take j)
        rw [List.length_take] at hm0
        go_wp2
        have HLT : (l.take j).length = j := by rw [List.length_take]; omega
        go_loopw [4, 7] (fun b i wr2 => ∃ k : Nat, i = .int .i64 k ∧ k ≤ j ∧ Sl kU8 wr2 (fun _ => False) b (cat ((l.take j).drop k)) ∧ Below wr.heap.size wr wr2) (fun _ i _ => l.length - (intOf i).toNat)
        case atStart => exact ⟨0, rfl, by omega, by simpa using HS.out, Below.refl _ _⟩
        case round =>
          rename_i wr2
          obtain ⟨k, rfl, hk, hs2, hb2⟩ := hrel
          have HS2 := Lib.hid hs2
          have HB2 := Lib.hid hb2
          obtain ⟨A4, c4, rfl, hl4, hc4⟩ := hs2.val
          clear hs2 hb2
          by_cases hkm : k < j
          · have hkl : k < l.length := by omega
            have hk50 : k < 50 := by omega
            have hn := H.out.keep (by decide) (keeps_of (Bel.trans _ _ _ (Bel.trans _ _ _ HB.out HBR.out) HB2.out) _)
            obtain ⟨g, o, rfl, hcell⟩ := hn.num hkl
            have HNN := Lib.hid hn
            clear hn
            have HC := Lib.hid (cat_drop (l.take j) k (by omega))
            have hx : (l.take j)[k]'(by omega) = l[k] := by simp
            have HX := Lib.hid (HALL.out (l[k]) (by rw [← hx]; exact List.getElem_mem _))
            obtain ⟨x, hgx⟩ : ∃ x, l[k] = x := ⟨_, rfl⟩
            rw [hgx] at hcell HX hx
            simp only [hx] at HC
            have HGX := Lib.hid hgx
            clear hgx hx
            have HG := Lib.hid (show vget (cat ((l.take j).drop k)) = (x, cat ((l.take j).drop (k + 1)), 0) from by rw [HC.out]; exact vget_put x _ HX.out)
            go_wp2_with (first
              | (go_at_call 10; refine (get_below _ _ _ _ HS2.out).mono ?_; rw [HG.out]; rintro e w5 ⟨v5, rfl, hs5, hb5⟩; have hcell := (HNN.out.keep (by decide) (keeps_of hb5 _)).num' hkl; simp only [HGX.out] at hcell; have HS5 := Lib.hid hs5; have HB5 := Lib.hid hb5; clear hs5 hb5))
            go_roundw
            case rel => exact ⟨k + 1, by go_num, by omega, HS5.out, HB2.out.trans (HB5.out.mono HB2.out.size)⟩
            case measure => simp [intOf]; omega
          · obtain rfl : j = k := by omega
            clear hkm hk
            have hz : cat ((l.take j).drop j) = [] := by rw [List.drop_eq_nil_of_le (by omega)]; rfl
            have hz' : (cat ((l.take j).drop j)).length = 0 := by rw [hz]; rfl
            go_wp2
            go_ret
            exact ⟨by simp [hz]; rfl, Bel.trans _ _ _ (Bel.trans _ _ _ HB.out HBR.out) HB2.out⟩
    ·
      have hs := HO.out.sl (fun _ h => h.elim)
      have HS := Lib.hid hs
      clear hs
      have hm0 := cat_len (l.take j)
      rw [List.length_take] at hm0
      go_wp2
      have HLT : (l.take j).length = j := by rw [List.length_take]; omega
      go_loopw [4, 7] (fun b i wr2 => ∃ k : Nat, i = .int .i64 k ∧ k ≤ j ∧ Sl kU8 wr2 (fun _ => False) b (cat ((l.take j).drop k)) ∧ Below wr.heap.size wr wr2) (fun _ i _ => l.length - (intOf i).toNat)
      case atStart => exact ⟨0, rfl, by omega, by simpa using HS.out, Below.refl _ _⟩
      case round =>
        rename_i wr2
        obtain ⟨k, rfl, hk, hs2, hb2⟩ := hrel
        have HS2 := Lib.hid hs2
        have HB2 := Lib.hid hb2
        obtain ⟨A4, c4, rfl, hl4, hc4⟩ := hs2.val
        clear hs2 hb2
        by_cases hkm : k < j
        · have hkl : k < l.length := by omega
          have hk50 : k < 50 := by omega
          have hn := H.out.keep (by decide) (keeps_of (Bel.trans _ _ _ (Bel.trans _ _ _ HB.out HBR.out) HB2.out) _)
          obtain ⟨g, o, rfl, hcell⟩ := hn.num hkl
          have HNN := Lib.hid hn
          clear hn
          have HC := Lib.hid (cat_drop (l.take j) k (by omega))
          have hx : (l.take j)[k]'(by omega) = l[k] := by simp
          have HX := Lib.hid (HALL.out (l[k]) (by rw [← hx]; exact List.getElem_mem _))
          obtain ⟨x, hgx⟩ : ∃ x, l[k] = x := ⟨_, rfl⟩
          rw [hgx] at hcell HX hx
          simp only [hx] at HC
          have HGX := Lib.hid hgx
          clear hgx hx
          have HG := Lib.hid (show vget (cat ((l.take j).drop k)) = (x, cat ((l.take j).drop (k + 1)), 0) from by rw [HC.out]; exact vget_put x _ HX.out)
          go_wp2_with (first
            | (go_at_call 10; refine (get_below _ _ _ _ HS2.out).mono ?_; rw [HG.out]; rintro e w5 ⟨v5, rfl, hs5, hb5⟩; have hcell := (HNN.out.keep (by decide) (keeps_of hb5 _)).num' hkl; simp only [HGX.out] at hcell; have HS5 := Lib.hid hs5; have HB5 := Lib.hid hb5; clear hs5 hb5))
          go_roundw
          case rel => exact ⟨k + 1, by go_num, by omega, HS5.out, HB2.out.trans (HB5.out.mono HB2.out.size)⟩
          case measure => simp [intOf]; omega
        · obtain rfl : j = k := by omega
          clear hkm hk
          have hz : cat ((l.take j).drop j) = [] := by rw [List.drop_eq_nil_of_le (by omega)]; rfl
          have hz' : (cat ((l.take j).drop j)).length = 0 := by rw [hz]; rfl
          go_wp2
          go_ret
          exact ⟨by simp [hz]; rfl, Bel.trans _ _ _ (Bel.trans _ _ _ HB.out HBR.out) HB2.out⟩
theorem opens_ints : Opens Try.prog 33 kInts := opens_sl _ und_ints (by kernel_rfl) (opens_i64 (by kernel_rfl))
theorem run_two (w : World) {b : List Int} {A : Option Addr} {l c : Nat} (h : Sl kI64 w (fun _ => False) (.slice A l c) b) :
    Calls Try.prog 7 #[.slice A l c] w fun e w' => e = .returned (.bool true) ∧ Below w.heap.size w w' := law_two b _ w h
end Go.Proofs.Ythcoccoanpmhgaa
