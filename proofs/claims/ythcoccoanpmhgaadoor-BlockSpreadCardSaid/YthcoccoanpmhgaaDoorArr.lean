/- Arrays in memory: a block known whole, and what the walk does with it. -/
import Derived.Test.YthcoccoanpmhgaaDoorU32
import Derived.Test.YthcoccoanpmhgaaDoorReg
import Derived.Laws.Rows
import Derived.Laws.Tables
import Derived.Great.Walk
namespace Go.Proofs.YthcoccoanpmhgaaDoor
open Go.RowKit
set_option linter.unusedVariables false
set_option linter.unusedSimpArgs false
/-- Block g is the cells cs, of type t. -/
def Row (w : World) (g : Nat) (t : TypeId) (cs : Array Value) : Prop := w.heap[g]? = some (.cells cs t (0, 0))
section
variable {w w' : World} {g : Nat} {t : TypeId} {cs : Array Value}
theorem Row.lt (h : Row w g t cs) : g < w.heap.size := by
  rcases Nat.lt_or_ge g w.heap.size with hl | hl
  · exact hl
  · unfold Row at h; rw [Array.getElem?_eq_none hl] at h; cases h
theorem Row.cell (h : Row w g t cs) (i : Nat) : w.cell? ⟨g, i, none⟩ = cs[i]? := cell_of_row w g i cs t (0, 0) h
theorem Row.frozen (h : Row w g t cs) (i : Nat) : w.frozen? ⟨g, i, none⟩ = false := frozen_of_row w g i cs t h
theorem Row.new (w : World) (t : TypeId) (cs : Array Value) : Row (w.alloc (.cells cs t)) w.heap.size t cs := heap_alloc_new w _
theorem Row.alloc (h : Row w g t cs) (o : Obj) : Row (w.alloc o) g t cs := (Below.heap_alloc w o g h.lt).trans h
theorem Row.set_ (h : Row w g t cs) (i : Nat) (u : Value) : Row (w.setCell ⟨g, i, none⟩ u) g t (cs.setIfInBounds i u) := heap_setCell_same w g i cs t u h
theorem Row.far {p : Addr} (h : Row w g t cs) (hp : g ≠ p.block) (u : Value) : Row (w.setCell p u) g t cs := (heap_setCell_other w p g u hp).trans h
theorem Row.put (h : Row w g t cs) (cs' : Array Value) : Row (w.setRow g cs') g t cs' := setRow_heap w g cs cs' t (0, 0) h
theorem Row.farRow {g' : Nat} (h : Row w g t cs) (hp : g ≠ g') (cs' : Array Value) : Row (w.setRow g' cs') g t cs := (setRow_other w g' g cs' hp).trans h
theorem Row.bel (h : Row w g t cs) (hb : Bel w w') : Row w' g t cs := (hb.block g h.lt).trans h
theorem Row.below {B : Nat} (h : Row w g t cs) (hb : Below B w w') (hg : g < B) : Row w' g t cs := (hb.block g hg).trans h
theorem below_setRow_ {B : Nat} {w0 : World} (hb : Below B w0 w) (hBg : B ≤ g) (cs : Array Value) : Below B w0 (w.setRow g cs) :=
  ⟨hb.os, hb.tape, hb.output, Nat.le_trans hb.size (Nat.le_of_eq (setRow_size w g cs).symm), fun k hk => (setRow_other w g k cs (by omega)).trans (hb.block k hk)⟩
end
/-- Only block g is written. -/
structure Upd (g : Nat) (w w' : World) : Prop where
  os : w'.os = w.os
  tape : w'.tape = w.tape
  output : w'.output = w.output
  size : w'.heap.size = w.heap.size
  block : ∀ k, k ≠ g → w'.heap[k]? = w.heap[k]?
theorem Upd.setRow (w : World) (g : Nat) (cs : Array Value) : Upd g w (w.setRow g cs) := ⟨rfl, rfl, rfl, setRow_size w g cs, fun k hk => setRow_other w g k cs hk⟩
theorem Upd.setCell (w : World) (g i : Nat) (v : Value) : Upd g w (w.setCell ⟨g, i, none⟩ v) :=
  ⟨rfl, rfl, rfl, by simp [World.setCell], fun k hk => heap_setCell_other w ⟨g, i, none⟩ k v hk⟩
theorem Upd.trans {g : Nat} {a b c : World} (h : Upd g a b) (h' : Upd g b c) : Upd g a c :=
  ⟨h'.os.trans h.os, h'.tape.trans h.tape, h'.output.trans h.output, h'.size.trans h.size, fun k hk => (h'.block k hk).trans (h.block k hk)⟩
theorem Row.upd {w w' : World} {g g' : Nat} {t : TypeId} {cs : Array Value} (h : Row w g' t cs) (hu : Upd g w w') (hne : g' ≠ g) : Row w' g' t cs := (hu.block g' hne).trans h
theorem below_upd {w0 w w' : World} {B g : Nat} (hb : Below B w0 w) (hu : Upd g w w') (hB : B ≤ g) : Below B w0 w' :=
  ⟨hu.os.trans hb.os, hu.tape.trans hb.tape, hu.output.trans hb.output, by rw [hu.size]; exact hb.size, fun k hk => (hu.block k (by omega)).trans (hb.block k hk)⟩
theorem below_bel {w0 w w' : World} {B : Nat} (hb : Below B w0 w) (h : Bel w w') (hB : B ≤ w.heap.size) : Below B w0 w' := hb.trans (h.mono hB)
section
variable {P : Program} {ops : Array Oper} {rest : List Oper} {o : Oper} {a : Act} {w : World} {Q : Exit → Act → World → Prop}
theorem bel_alloc (w : World) (o : Obj) : Bel w (w.alloc o) := (Below.refl _ _).alloc (Nat.le_refl _) _
/-- 'alloc t' of an array. -/
theorem wpList_alloc_arr (hgd : o.guard = none) {t : TypeId} (ho : o.op = .alloc t) {Z : Array Value} (hz : ∀ w, (zeroValue t).run P w = .ok (.agg Z) w)
    (h : ∀ g w', w.heap.size ≤ g → Row w' g t Z → Bel w w' → wpList P ops Q rest (a.put o.dst (.pointer (some ⟨g, 0, none⟩))) w') : wpList P ops Q (o :: rest) a w := by
  refine wpList_plain hgd fun K hK => ?_
  unfold Oper.wp execOp
  simp only [ho, Instr.alloc, Sem.run_bind, hz, Result.andThen_ok, newVar, newRow, newObj, Value.cells]
  exact hK _ _ (h w.heap.size _ (Nat.le_refl _) (Row.new w t Z) (bel_alloc w _))
/-- 'box t x' of an array. -/
theorem wpList_box_arr (hgd : o.guard = none) {t : TypeId} {x : Operand} (ho : o.op = .box t x) {cs : Array Value} (hx : a.eval x = .agg cs)
    (h : ∀ g w', w.heap.size ≤ g → Row w' g t cs → Bel w w' → wpList P ops Q rest (a.put o.dst (.pointer (some ⟨g, 0, none⟩))) w') : wpList P ops Q (o :: rest) a w := by
  refine wpList_plain hgd fun K hK => ?_
  unfold Oper.wp execOp
  simp only [ho, hx, Instr.box, Sem.run_bind, Result.andThen_ok, newVar, newRow, newObj, Value.cells]
  exact hK _ _ (h w.heap.size _ (Nat.le_refl _) (Row.new w t cs) (bel_alloc w _))
/-- A whole array out of its block. -/
theorem wpList_load_arr (hgd : o.guard = none) {ty : TypeId} {x : Operand} (ho : o.op = .load ty x) {g : Nat} (hx : a.eval x = .pointer (some ⟨g, 0, none⟩)) {t : TypeId} {cs : Array Value} (hg : Row w g t cs)
    {n : Nat} {e : TypeId} (hu : P.underlying ty = some (.array n e)) (hi : (P.info? ty).map (·.size) = some cs.size)
    (h : wpList P ops Q rest (a.put o.dst (.agg cs)) w) : wpList P ops Q (o :: rest) a w :=
  wpList_load_row hgd ty x ho g hx t cs (0, 0) _ hg hu rfl hi h
/-- A whole array into its block. -/
theorem wpList_store_arr (hgd : o.guard = none) {ty : TypeId} {x y : Operand} (ho : o.op = .store ty x y) {g : Nat} {cells : Array Value} (hx : a.eval x = .pointer (some ⟨g, 0, none⟩)) (hy : a.eval y = .agg cells)
    {t : TypeId} {old : Array Value} (hg : Row w g t old) (hi : (P.info? ty).map (·.size) = some cells.size) (hold : old.size = cells.size) (h1 : cells.all (·.oneCell') = true)
    (h : ∀ w', Row w' g t cells → Upd g w w' → wpList P ops Q rest (a.put o.dst undef) w') : wpList P ops Q (o :: rest) a w :=
  wpList_store_row hgd ty x y ho g cells hx hy t old hg hi hold h1 (h _ (hg.put cells) (Upd.setRow w g cells))
/-- The result, a whole array. -/
theorem ret_arr {fn : Func} {R : Ending → World → Prop} {p : Tmp} {ty : TypeId} {tmps : Array Value} (h : fn.results = #[.cell p ty]) {g : Nat} {t : TypeId} {cs : Array Value} (hp : tmps.getD p undef = .pointer (some ⟨g, 0, none⟩)) (hg : Row w g t cs)
    {n : Nat} {e : TypeId} (hu : P.underlying ty = some (.array n e)) (hi : (P.info? ty).map (·.size) = some cs.size) (hR : R (.returned (.agg cs)) w) : bodyPost P fn R .ret ⟨tmps, []⟩ w :=
  bodyPost_ret (results_cell_row h tmps w g t cs (0, 0) _ hp hg hu rfl hi) rfl hR
theorem cells_one {v : Value} (hv : v.oneCell' = true) : v.cells = #[v] := by cases v <;> first | rfl | (simp [Value.oneCell'] at hv)
/-- One cell, stored. -/
theorem wpList_store_cell (hgd : o.guard = none) {ty : TypeId} {x y : Operand} (ho : o.op = .store ty x y) {g i : Nat} {v : Value} (hx : a.eval x = .pointer (some ⟨g, i, none⟩)) (hy : a.eval y = v) (hv : v.oneCell' = true)
    {t : TypeId} {old : Array Value} (hg : Row w g t old) (hi : (P.info? ty).map (·.size) = some 1) (hlt : i < old.size)
    (h : ∀ w', Row w' g t (old.setIfInBounds i v) → Upd g w w' → wpList P ops Q rest (a.put o.dst undef) w') : wpList P ops Q (o :: rest) a w := by
  refine wpList_plain hgd fun K hK => ?_
  have hc : w.cell? ⟨g, i, none⟩ = some old[i] := (hg.cell i).trans (Array.getElem?_eq_getElem hlt)
  have hf := hg.frozen i
  have hadd : (⟨g, i, none⟩ : Addr).add 0 = ⟨g, i, none⟩ := by simp [Addr.add]
  have hr : (store ⟨g, i, none⟩ v).run P w = .ok () (w.setCell ⟨g, i, none⟩ v) := by rw [run_store P w _ v _ hv]; simp [hc, hf]
  cases hq : P.info? ty with
  | none => simp [hq] at hi
  | some inf =>
    have hs : inf.size = 1 := by simpa [hq] using hi
    unfold Oper.wp execOp
    simp [ho, hx, hy, Instr.storeAt, Instr.sureAddr, storeVar, sizeOf, typeInfo, hq, hs, cells_one hv, storeCells, hadd, hr]
    exact hK _ _ (h _ (hg.set_ i _) (Upd.setCell w g i _))
end
/-- An element of an array that is a value. -/
theorem run_index_arr {P : Program} {t e : TypeId} {n : Nat} {k kk : IntKind} {cs : Array Value} {v : Value} {j : Int} {w : World} (hu : P.underlying t = some (.array n e)) (he : P.underlying e = some (.int k)) (hs : (P.info? e).map (·.size) = some 1) (h0 : 0 ≤ j) (h : j < n) (hc : cs[j.toNat]? = some v) :
    (Instr.index t (.agg cs) (.int kk j)).run P w = .ok v w := by
  cases hq : P.info? e with
  | none => simp [hq] at hs
  | some inf =>
    have hs' : inf.size = 1 := by simpa [hq] using hs
    simp [Instr.index, asIntOf, run_underlying hu, run_underlying he, sizeOf, typeInfo, hq, hs', h0, h, part, isAgg, hc]
end Go.Proofs.YthcoccoanpmhgaaDoor
