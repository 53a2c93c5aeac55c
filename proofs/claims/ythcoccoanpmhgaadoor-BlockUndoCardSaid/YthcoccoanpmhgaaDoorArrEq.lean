/- Arrays of numbers, held against each other. -/
import Derived.Test.YthcoccoanpmhgaaDoorArr
import Derived.Laws.StructEq
namespace Go.Proofs.YthcoccoanpmhgaaDoor
open Go.RowKit
set_option linter.unusedVariables false
set_option linter.unusedSimpArgs false
section
variable {P : Program} {w : World}
theorem forIn_all {β : Type} (f : Nat → β → Sem (ForInStep β)) (b : β) : ∀ (l : List Nat), (∀ i ∈ l, (f i b).run P w = .ok (.yield b) w) → (forIn l b f).run P w = .ok b w
  | [], _ => by simp
  | i :: l, h => by
    rw [List.forIn_cons, Sem.run_bind, h i (by simp)]
    simp only [Result.andThen_ok]
    exact forIn_all f b l fun i hi => h i (by simp [hi])
theorem run_part_num {e : TypeId} {k : IntKind} {cs : Array Value} {v : Value} {j : Nat} (he : P.underlying e = some (.int k)) (hc : cs[j]? = some v) : (part e cs j).run P w = .ok v w := by
  simp [part, isAgg, run_underlying he, hc]
/-- The same array is equal. -/
theorem run_equalIn_same {t e : TypeId} {n d : Nat} {k : IntKind} {cs : Array Value} (hu : P.underlying t = some (.array n e)) (he : P.underlying e = some (.int k)) (hs : (P.info? e).map (·.size) = some 1)
    (hn : cs.size = n) (hi : ∀ (j : Nat), j < n → ∃ a, cs[j]? = some (.int k a)) : (Op.equalIn (d + 2) t (.agg cs) (.agg cs)).run P w = .ok true w := by
  cases hq : P.info? e with
  | none => simp [hq] at hs
  | some inf =>
    have hs' : inf.size = 1 := by simpa [hq] using hs
    rw [Op.equalIn]
    simp only [Sem.run_bind, run_underlying hu, Result.andThen_ok, sizeOf, typeInfo, run_program, hq, hs', Sem.run_pure]
    simp only [Std.Legacy.Range.forIn_eq_forIn_range']
    rw [forIn_all]
    · simp
    · intro i hm
      obtain ⟨a, ha⟩ := hi i (by simp [List.mem_range'] at hm; simpa using hm)
      have hp := run_part_num (P := P) (w := w) he ha
      have h2 := run_equalIn_int (P := P) w d e k k a a he
      simp [Sem.run_bind, hp, h2]
theorem run_eql_same {t e : TypeId} {n : Nat} {k : IntKind} {cs : Array Value} (hu : P.underlying t = some (.array n e)) (he : P.underlying e = some (.int k)) (hs : (P.info? e).map (·.size) = some 1)
    (hn : cs.size = n) (hi : ∀ (j : Nat), j < n → ∃ a, cs[j]? = some (.int k a)) : (binOp .eql t (.agg cs) (.agg cs)).run P w = .ok (.bool true) w := by
  rw [run_eql_struct, run_equalIn_same (d := 9998) hu he hs hn hi]
  rfl
/-- The operation that loads a whole array. -/
theorem run_load_arr {ρ : Operand → Value} {o : Oper} {ty : TypeId} {x : Operand} (ho : o.op = .load ty x) {g : Nat} (hx : ρ x = .pointer (some ⟨g, 0, none⟩)) {t : TypeId} {cs : Array Value} (hg : Row w g t cs)
    {n : Nat} {e : TypeId} (hu : P.underlying ty = some (.array n e)) (hi : (P.info? ty).map (·.size) = some cs.size) : (execOp ρ o).run P w = .ok (.value (.agg cs)) w := by
  unfold execOp
  simp only [ho, hx, Instr.loadAt, Instr.sureAddr, Sem.run_bind, Sem.run_pure, Result.andThen_ok, run_loadVar_row w g t ty cs (0, 0) _ hg hu rfl hi]
/-- An array made inside a region that draws its order. -/
theorem step_alloc_arr {ρ : Operand → Value} {o : Oper} {t : TypeId} (ho : o.op = .alloc t) {Z : Array Value} (hz : ∀ w, (zeroValue t).run P w = .ok (.agg Z) w) {B : Nat} (hB : B ≤ w.heap.size) :
    StepOk P (execOp ρ o) w fun v w' => Bel w w' ∧ ∃ g, v = .pointer (some ⟨g, 0, none⟩) ∧ B ≤ g ∧ Row w' g t Z := by
  unfold StepOk execOp
  simp only [ho, Instr.alloc, Sem.run_bind, hz, Result.andThen_ok, newVar, newRow, newObj, Value.cells]
  exact ⟨bel_alloc w _, w.heap.size, rfl, hB, Row.new w t Z⟩
end
def MG.row (t : TypeId) (B : Nat) (Z : Array Value) : MG :=
  ⟨{ G := fun v w => ∃ g, v = .pointer (some ⟨g, 0, none⟩) ∧ B ≤ g ∧ Row w g t Z, ok := fun v => ∃ g, v = .pointer (some ⟨g, 0, none⟩) ∧ B ≤ g, imp := fun v w ⟨g, h1, h2, _⟩ => ⟨g, h1, h2⟩, x0 := .pointer (some ⟨B, 0, none⟩), hx0 := ⟨B, rfl, Nat.le_refl _⟩ },
    fun v w w' hb ⟨g, h1, h2, h3⟩ => ⟨g, h1, h2, h3.bel hb⟩⟩
theorem ptr_inj {g g' : Nat} (h : Value.pointer (some ⟨g, 0, none⟩) = .pointer (some ⟨g', 0, none⟩)) : g = g' := by cases h; rfl
theorem run_op_eql_same {P : Program} {w : World} {ρ : Operand → Value} {o : Oper} {t ty : TypeId} {x y : Operand} {cs : Array Value} (ho : o.op = .binOp .eql t x y ty) (hx : ρ x = .agg cs) (hy : ρ y = .agg cs) (hm : P.eqGuardType P.depth t = false)
    (he : (binOp .eql t (.agg cs) (.agg cs)).run P w = .ok (.bool true) w) : (execOp ρ o).run P w = .ok (.value (.bool true)) w := by
  unfold execOp
  simp only [ho, hx, hy, Sem.run_bind, run_eqGuard_agg w .eql t x y cs cs hm, Result.andThen_ok, he, Sem.run_pure]
end Go.Proofs.YthcoccoanpmhgaaDoor
