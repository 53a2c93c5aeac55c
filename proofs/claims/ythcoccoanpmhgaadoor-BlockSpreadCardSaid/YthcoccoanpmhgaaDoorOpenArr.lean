/- An argument that is an array of numbers, opened; the table. -/
import Derived.Test.YthcoccoanpmhgaaDoorBlkMix
import Derived.Test.YthcoccoanpmhgaaDoorOpen
import Derived.Lib.LaidTab
import Derived.OpenShut
import Derived.WideShapes
namespace Go.Proofs.YthcoccoanpmhgaaDoor
open Go.RowKit Go.WideShapes
set_option linter.unusedVariables false
set_option linter.unusedSimpArgs false
theorem all_enc {α : Type} (enc : α → Value) : ∀ (L : List Value), (∀ v ∈ L, ∃ y, v = enc y) → ∃ l : List α, L = l.map enc
  | [], _ => ⟨[], rfl⟩
  | v :: L, h => by
    obtain ⟨y, hy⟩ := h v (by simp)
    obtain ⟨l, hl⟩ := all_enc enc L fun u hu => h u (by simp [hu])
    exact ⟨y :: l, by rw [hy, hl]; rfl⟩
theorem arg_arr {H : Type} {enc : TypeId × Value → H} {P : Program} {w : World} {base : Nat} {sp : Nat → Bool} {held : Bool} {t e : TypeId} {n : Nat} {v : Value} {dd : DataW H} {ps : List MemPlace} {α : Type} (f : α → Value)
    (ho : ∀ (fuel : Nat) (cs : List Value) (x : DataW H × List MemPlace), DataW.trod enc P w base sp held fuel e cs = some x → ∃ y, cs = [f y])
    (ht : P.underlying t = some (.array n e)) (hce : P.cellsOf e = 1) (hct : P.cellsOf t = n) {r : Reach} {b0 : Nat} (hv : Value.okWide P w r b0 t v)
    (h : DataW.Trod enc P w base sp held t v dd ps) : ∃ l : List α, v = .agg (l.map f).toArray ∧ l.length = n := by
  simp only [Value.okWide, ht] at hv
  obtain ⟨cs, rfl, hsz, _⟩ := hv
  obtain ⟨fuel, h⟩ := h
  obtain ⟨xs, m, _, _, hl, hxs, hel⟩ := DataW.trod_array ht h
  rw [hct] at hsz
  obtain ⟨l, hL⟩ := all_enc f cs.toList fun u hu => by
    obtain ⟨i, hi⟩ := List.getElem?_of_mem hu
    have hlt : i < n := by have := (List.getElem?_eq_some_iff.1 hi).1; simp at this; omega
    have h1 := hel i hlt
    rw [hce, List.getElem?_eq_getElem (by omega)] at h1
    obtain ⟨y, hy⟩ := ho _ _ _ h1
    refine ⟨y, ?_⟩
    simp only [Value.cells, Nat.mul_one] at hy
    have h2 := congrArg (·[0]?) hy
    simp [List.getElem?_take, List.getElem?_drop] at h2
    rw [show cs.toList[i]? = cs[i]? by simp] at hi
    rw [hi] at h2
    exact Option.some.inj h2
  refine ⟨l, ?_, ?_⟩
  · rw [← hL]
  · have := congrArg List.length hL
    simp at this; omega
theorem num_u32 {H : Type} {enc : TypeId × Value → H} {P : Program} {w : World} {base : Nat} {sp : Nat → Bool} {held : Bool} {e : TypeId} (he : P.underlying e = some (.int .u32)) (fuel : Nat) (cs : List Value) (x : DataW H × List MemPlace)
    (h : DataW.trod enc P w base sp held fuel e cs = some x) : ∃ y : UInt32, cs = [.int .u32 (wv y)] := by
  obtain ⟨n, rfl, _, hw⟩ := DataW.trod_int he h
  refine ⟨UInt32.ofNat n.toNat, ?_⟩
  simp [Lit.wf, IntKind.min, IntKind.max, IntKind.signed, IntKind.bits] at hw
  have : wv (UInt32.ofNat n.toNat) = n := by unfold wv; rw [UInt32.toNat_ofNat']; omega
  rw [this]
theorem num_u8 {H : Type} {enc : TypeId × Value → H} {P : Program} {w : World} {base : Nat} {sp : Nat → Bool} {held : Bool} {e : TypeId} (he : P.underlying e = some (.int .u8)) (fuel : Nat) (cs : List Value) (x : DataW H × List MemPlace)
    (h : DataW.trod enc P w base sp held fuel e cs = some x) : ∃ y : UInt8, cs = [.int .u8 y.toNat] := by
  obtain ⟨n, rfl, _, hw⟩ := DataW.trod_int he h
  refine ⟨UInt8.ofNat n.toNat, ?_⟩
  simp [Lit.wf, IntKind.min, IntKind.max, IntKind.signed, IntKind.bits] at hw
  have : (((UInt8.ofNat n.toNat).toNat : Nat) : Int) = n := by rw [UInt8.toNat_ofNat']; omega
  rw [this]
theorem gTab : Tryd.prog.globalNamed "cordwood/block.numbers" = some 0 := by kernel_rfl
theorem gTabType : (Tryd.prog.globals[0]?).map (·.type) = some 27 := by kernel_rfl
theorem cells_w64 : Tryd.prog.cellsOf 27 = 64 := by kernel_rfl
theorem cells_w8 : Tryd.prog.cellsOf 23 = 8 := by kernel_rfl
theorem cells_b64 : Tryd.prog.cellsOf 24 = 64 := by kernel_rfl
theorem cells_u32 : Tryd.prog.cellsOf 22 = 1 := by kernel_rfl
theorem cells_u8 : Tryd.prog.cellsOf 5 = 1 := by kernel_rfl
theorem laid_eq : (Rows.laid_cordwood_block_numbers : DataW Unit) = Lib.tabData .u32 (nums.map fun x => wv x) := by kernel_rfl
/-- What the row's list gives. -/
theorem tab_of {W : World} (h : laidMetH Tryd.prog [("cordwood/block.numbers", Rows.laid_cordwood_block_numbers)] W) : TabB W := by
  rw [laid_eq] at h
  have hT : Lib.TabIs Tryd.prog W "cordwood/block.numbers" .u32 (nums.map fun x => wv x) := Lib.tabIs_of_head (rest := []) gTab gTabType w64_und und_u32 cells_u32 cells_w64 h
  have hc : ∀ j v, (u32s nums)[j]? = some v → W.cell? ⟨0, j, none⟩ = some v := by
    intro j v hv
    have hj : j < nums.length := by
      have := (Array.getElem?_eq_some_iff.1 hv).1
      rwa [u32s_size] at this
    rw [hT.cell gTab j (by rw [List.length_map]; exact hj)]
    rw [u32s_get nums j hj] at hv
    rw [← hv]
    simp [List.getD_eq_getElem?_getD, hj]
  refine ⟨?_, hc⟩
  exact block_lt_of_cell (hc 0 _ (u32s_get nums 0 (by decide)))
end Go.Proofs.YthcoccoanpmhgaaDoor
