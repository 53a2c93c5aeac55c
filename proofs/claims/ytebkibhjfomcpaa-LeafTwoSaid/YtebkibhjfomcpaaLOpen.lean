/- Arguments: leaves, opened. -/
import Derived.Test.YtebkibhjfomcpaaWOpen
import Derived.Test.YtebkibhjfomcpaaLeaf
namespace Go.Proofs.Ytebkibhjfomcpaa
open Go.RowKit
set_option linter.unusedVariables false
set_option linter.unusedSimpArgs false
abbrev kLeaf : Kd Leaf := (kBytes.prod (kBytes.prod (kI64.prod kBytes))).iso fun l => (l.enc, l.cred, l.source, l.parent)
theorem opens_leaf : Opens Try.prog 24 kLeaf := by
  intro H enc w base sp held fuel cs x h
  obtain ⟨xs, n, _, _, hl, hxs, hf⟩ := DataW.trod_struct Try.underlying24 h
  have hl : cs.length = 4 := hl
  have hxs : xs.length = 4 := hxs
  match cs, hl with
  | [c0, c1, c2, c3], _ =>
    match xs, hxs with
    | [x0, x1, x2, x3], _ =>
      have h0 := hf 0 _ rfl
      have h1 := hf 1 _ rfl
      have h2 := hf 2 _ rfl
      have h3 := hf 3 _ rfl
      obtain ⟨y0, r0⟩ := opens_bytes enc w base sp held n [c0] x0 h0
      obtain ⟨y1, r1⟩ := opens_bytes enc w base sp held n [c1] x1 h1
      obtain ⟨y2, r2⟩ := opens_i64 (hT 3 _ rfl).und enc w base sp held n [c2] x2 h2
      obtain ⟨y3, r3⟩ := opens_bytes enc w base sp held n [c3] x3 h3
      exact ⟨⟨y0, y1, y2, y3⟩, [c0], [c1, c2, c3], rfl, r0, [c1], [c2, c3], rfl, r1, [c2], [c3], rfl, r2, r3⟩
theorem rvs_leaf {O : Nat → Prop} {w : World} {μ : Mu} {l : Leaf} {cs : List Value} (h : kLeaf.rel w O l cs) : RVs O w μ (lfC l) cs := by
  obtain ⟨_, _, rfl, ⟨v0, rfl, h0⟩, _, _, rfl, ⟨v1, rfl, h1⟩, _, _, rfl, h2, ⟨v3, rfl, h3⟩⟩ := h
  have h2 : _ = [Value.int .i64 l.source] := h2
  subst h2
  exact .cons (rv_bytes h0) (.cons (rv_bytes h1) (.cons (.lit _) (.cons (rv_bytes h3) .nil)))
theorem rv_leaf {O : Nat → Prop} {w : World} {μ : Mu} {l : Leaf} {cs : Array Value} (h : kLeaf.rel w O l cs.toList) : RV O w μ (leafA l) (.agg cs) := by
  have := rvs_leaf (μ := μ) h
  have e : cs = cs.toList.toArray := by simp
  rw [e]
  exact .agg this.1 this.2
/-- Leaves, in memory. -/
def eLeaf : Enc Leaf := ⟨4, ⟨[], [], 0, []⟩, lfC⟩
theorem opens_leaves : Opens Try.prog 36 (kLeaf.sl (by decide)) := opens_sl _ (hT 36 _ rfl).und (by kernel_rfl) opens_leaf
theorem rv_leaves {O : Nat → Prop} {w : World} {μ : Mu} {v : Value} {l : List Leaf} (h : Sl kLeaf w O v l) : RV O w μ (slE eLeaf l) v :=
  rv_sl (d := kLeaf) (enc := lfC) ⟨[], [], 0, []⟩ (fun x cs hx => rvs_leaf hx) (fun _ => rfl) (by decide) h
end Go.Proofs.Ytebkibhjfomcpaa
