/- slices.Clone of octets. -/
import Derived.Test.YthcoccoanpmhgaaBase
namespace Go.Proofs.Ythcoccoanpmhgaa
open Go.RowKit
set_option linter.unusedVariables false
set_option linter.unusedSimpArgs false
set_option maxHeartbeats 400000 in
theorem clone_bytes (b : List UInt8) (O : Nat → Prop) (v : Value) (w : World) (h : Sl kU8 w O v b) (hb : b.length ≤ 140737488355328) :
    Calls Try.prog 16 #[v] w fun e w' => ∃ v', e = .returned v' ∧ Out kU8 5 w w' (fun _ => False) v' b := by
  obtain ⟨A, c, rfl, hl, hc⟩ := h.val
  have hnil := fun (w : World) n => Lib.run_eql_slice_nil (P := Try.prog) w 22 5 A n c 0 0 und_bytes
  cases A with
  | none =>
    have hb0 : b = [] := by
      by_cases hb0 : b = []
      · exact hb0
      · obtain ⟨A', c', e, _, _, hh⟩ := h
        obtain ⟨a, _, ha, _⟩ := hh hb0
        injection e with e1
        subst e1; cases ha
    subst hb0
    go_enter Try.func16, Try.ntmps16
    go_wp2
    go_ret
    exact ⟨_, rfl, Out.start _ _ _ _⟩
  | some a =>
    go_enter Try.func16, Try.ntmps16
    obtain ⟨i, hin, hz, hsz, hby⟩ := inf_u8
    have hown := Out.made (d := kU8) (e := 5) (O := fun _ => False) (Below.refl w.heap.size w)
    have h1 := hown.par (by decide) (h.anti (O' := fun _ => False) (fun _ h => h.elim))
    go_wp2_with (at_builtin; refine wpList_append_any rfl _ _ _ (by rfl) und_bytes hin hz hsz rfl (by decide) (by rfl) hown (by rfl) h1 (by unfold maxLen; simp; omega) (by rw [hby]; simp; omega) ?_; intro v2 w1 hown1 hgr hat)
    go_ret
    exact ⟨_, rfl, hown1⟩
end Go.Proofs.Ythcoccoanpmhgaa
