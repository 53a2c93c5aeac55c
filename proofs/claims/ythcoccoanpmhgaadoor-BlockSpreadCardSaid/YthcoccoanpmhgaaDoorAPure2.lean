/- Operations that write nothing: addresses, fields, cuts, literals of structs. -/
import Derived.Test.YthcoccoanpmhgaaDoorAPure
namespace Go.Proofs.YthcoccoanpmhgaaDoor
open Go.RowKit
set_option linter.unusedVariables false
set_option linter.unusedSimpArgs false
set_option linter.unusedSectionVars false
variable {P : Program} {tab : Tab} {X : Nat → Prop} {H : List AObj} {μ : Mu} {w : World} {O : Nat → Prop}

def fieldOf (tab : Tab) (t : TypeId) (k : Nat) : Option (Nat × TypeId) :=
  match tab t with
  | some i => match i.k with | .struct fs => nth fs k | _ => none
  | none => none
theorem fieldOf_ok (hT : TabOk P tab) {t : TypeId} {k off ft : Nat} (h : fieldOf tab t k = some (off, ft)) :
    ∃ fields f, P.underlying t = some (.struct fields) ∧ fields[k]? = some f ∧ f.offset = off ∧ f.type = ft := by
  unfold fieldOf at h
  split at h
  · rename_i i hi
    have hu := (hT t i hi).und
    split at h
    · rename_i fs hk
      rw [hk] at hu
      obtain ⟨fields, hf, hm⟩ := hu
      rw [nth_eq, ← hm] at h
      simp only [List.getElem?_map, Option.map_eq_some_iff, Prod.mk.injEq] at h
      obtain ⟨f, h1, h2, h3⟩ := h
      exact ⟨fields, f, hf, by simpa using h1, h2, h3⟩
    · cases h
  · cases h
def aFieldAddr (tab : Tab) (t : TypeId) (x : AV) (k : Nat) : Option AV :=
  match fieldOf tab t k with
  | some (off, ft) => match tab ft with
    | some fi => match Nat.blt 0 fi.sz, x with
      | true, .ptr i sz e o => some (.ptr i sz e (o + off))
      | true, .ip cs => some (.ip (cs.drop off))
      | _, _ => none
    | none => none
  | none => none
theorem fieldAddr_sound (hT : TabOk P tab) {t : TypeId} {x r : AV} {k : Nat} (h : aFieldAddr tab t x k = some r) {v : Value} (hv : RV O w μ x v) :
    ∃ u, (Instr.fieldAt t v k).run P w = .ok u w ∧ RV O w μ r u := by
  unfold aFieldAddr at h
  split at h
  · rename_i off ft hf
    obtain ⟨fields, f, h1, h2, rfl, rfl⟩ := fieldOf_ok hT hf
    split at h
    · rename_i fi hfi
      have hz := (hT _ _ hfi).run_size (w := w)
      split at h
      · rename_i i sz e o hb
        injection h with h; subst h
        have hb : ¬ fi.sz = 0 := by rw [Nat.blt_eq] at hb; omega
        cases hv with
        | ptr hm =>
          refine ⟨_, ?_, .ptr hm⟩
          simp [Instr.fieldAt, run_underlying h1, h2, Instr.sureAddr, fieldPlace, hz, hb, Addr.add_mid, Nat.add_assoc]
      · rename_i cs hb
        injection h with h; subst h
        have hb : ¬ fi.sz = 0 := by rw [Nat.blt_eq] at hb; omega
        cases hv with
        | ip g1 g2 g3 g4 g5 =>
          rename_i g o vs
          refine ⟨.pointer (some ⟨g, o + f.offset, none⟩), ?_, .ip (vs := vs.drop f.offset) (by simp [g1]) (fun j a v ha hv => g2 (f.offset + j) a v (by simpa using ha) (by simpa using hv)) g3 g4 (fun j u hu => ?_)⟩
          · simp [Instr.fieldAt, run_underlying h1, h2, Instr.sureAddr, fieldPlace, hz, hb, Addr.add_mid]
          · rw [Nat.add_assoc]; exact g5 _ u (by simpa using hu)
      · cases h
    · cases h
  · cases h

theorem run_part_cells {t : TypeId} {i : TyI} (hi : TyOk P t i) {cs : Array Value} {off : Nat} {vs : List Value} (hl : vs.length = i.sz) (hc : ∀ j v, vs[j]? = some v → cs[off + j]? = some v) :
    (part t cs off).run P w = .ok (mkV i vs) w := by
  unfold part mkV
  rw [Sem.run_bind, hi.isAgg]
  simp only [Result.andThen_ok]
  by_cases hk : i.k.isAgg = true
  · rw [if_pos hk, if_pos hk]
    simp only [Sem.run_bind, hi.run_size, Result.andThen_ok, Sem.run_pure]
    congr 2
    apply Array.ext'
    rw [← hl]
    apply List.ext_getElem?
    intro j
    simp only [Array.toList_extract, List.extract_eq_take_drop, List.getElem?_take, List.getElem?_drop, Array.getElem?_toList]
    by_cases hj : j < vs.length
    · rw [if_pos (by omega), hc j _ (List.getElem?_eq_getElem hj), List.getElem?_eq_getElem hj]
    · rw [if_neg (by omega), List.getElem?_eq_none (by omega)]
  · rw [if_neg hk, if_neg hk]
    have h1 : vs.length = 1 := by rw [hl, hi.one (by simpa using hk)]
    obtain ⟨v, rfl⟩ : ∃ v, vs = [v] := by
      match vs, h1 with
      | [v], _ => exact ⟨v, rfl⟩
    have := hc 0 v rfl
    simp only [Nat.add_zero] at this
    simp [this]
/-- The cells of a value. -/
def cellsA : AV → Option (List AV)
  | .agg cs => some cs
  | .lit (.agg vs) => some (vs.toList.map .lit)
  | .lit (.tuple _) | .arr .. | .tup _ | .junk => none
  | a => some [a]
theorem cellsA_rv {a : AV} {cs : List AV} (h : cellsA a = some cs) {v : Value} (hv : RV O w μ a v) : RVs O w μ cs v.cells.toList := by
  have one : ∀ {a : AV} {v : Value}, RV O w μ a v → v.cells = #[v] → some [a] = some cs → RVs O w μ cs v.cells.toList := by
    intro a v hv hc h
    injection h with h; subst h
    rw [hc]; exact .cons hv .nil
  cases hv with
  | agg h1 h2 =>
    simp only [cellsA] at h
    injection h with h; subst h
    exact ⟨by simpa [Value.cells] using h1, fun j a v ha hv => h2 j a v ha (by simpa [Value.cells] using hv)⟩
  | lit _ =>
    cases v <;> simp only [cellsA] at h <;> first | exact one (.lit _) rfl h | (cases h; done) | skip
    injection h with h; subst h
    refine ⟨by simp [Value.cells], fun j a v ha hv => ?_⟩
    simp only [List.getElem?_map, Option.map_eq_some_iff] at ha
    obtain ⟨u, hu, rfl⟩ := ha
    simp only [Value.cells] at hv
    rw [hu] at hv; injection hv with hv; subst hv
    exact .lit _
  | junk | arr | tup => simp only [cellsA] at h; cases h
  | sl a0 a1 a2 a3 a4 a5 a6 a7 a8 => exact one (.sl a0 a1 a2 a3 a4 a5 a6 a7 a8) rfl h
  | rowNil a1 a2 => exact one (.rowNil a1 a2) rfl h
  | row a1 a2 a3 a4 a5 => exact one (.row a1 a2 a3 a4 a5) rfl h
  | rowE a1 a2 a3 => exact one (.rowE a1 a2 a3) rfl h
  | ptr a1 => exact one (.ptr a1) rfl h
  | ip a1 a2 a3 a4 a5 => exact one (.ip a1 a2 a3 a4 a5) rfl h
  | fn a1 a2 a3 a4 => exact one (.fn a1 a2 a3 a4) rfl h
  | iface a1 => exact one (.iface a1) rfl h
def aField (tab : Tab) (t : TypeId) (x : AV) (k : Nat) : Option (Prop × AV) :=
  match fieldOf tab t k with
  | some (off, ft) => match tab ft with
    | some fi => match x with
      | .agg cs => (mkT tab fi ((cs.drop off).take fi.sz)).map fun r => (off + fi.sz ≤ cs.length, r)
      | .lit (.agg vs) => (mkT tab fi (((vs.toList.map .lit).drop off).take fi.sz)).map fun r => (off + fi.sz ≤ vs.toList.length, r)
      | _ => none
    | none => none
  | none => none
theorem field_run (hT : TabOk P tab) {t k off ft : Nat} (hf : fieldOf tab t k = some (off, ft)) {fi : TyI} (hfi : tab ft = some fi) {cs : List AV} {r : AV} (hm : mkT tab fi ((cs.drop off).take fi.sz) = some r) (hq : off + fi.sz ≤ cs.length)
    {vs : List Value} (hv : RVs O w μ cs vs) : ∃ u, (Instr.field t (.agg vs.toArray) k).run P w = .ok u w ∧ RV O w μ r u := by
  obtain ⟨fields, f, h1, h2, rfl, rfl⟩ := fieldOf_ok hT hf
  have hr := (hv.drop f.offset).take fi.sz
  refine ⟨_, ?_, mkT_rv hm hr⟩
  have hp := run_part_cells (w := w) (hT _ _ hfi) (cs := vs.toArray) (off := f.offset) (vs := (vs.drop f.offset).take fi.sz) (by rw [← hr.1]; simp; omega) (fun j v hv => by
    rw [List.getElem?_take] at hv
    split at hv
    · simpa using hv
    · cases hv)
  simp [Instr.field, run_underlying h1, h2, asAgg, hp]
theorem field_sound (hT : TabOk P tab) {t : TypeId} {x r : AV} {k : Nat} {q : Prop} (h : aField tab t x k = some (q, r)) (hq : q) {v : Value} (hv : RV O w μ x v) :
    ∃ u, (Instr.field t v k).run P w = .ok u w ∧ RV O w μ r u := by
  unfold aField at h
  split at h
  · rename_i off ft hf
    split at h
    · rename_i fi hfi
      split at h
      · rename_i cs
        simp only [Option.map_eq_some_iff, Prod.mk.injEq] at h
        obtain ⟨r, hm, rfl, rfl⟩ := h
        cases hv with
        | agg g1 g2 => exact field_run hT hf hfi hm hq ⟨g1, g2⟩
      · rename_i vs
        simp only [Option.map_eq_some_iff, Prod.mk.injEq] at h
        obtain ⟨r, hm, rfl, rfl⟩ := h
        cases hv
        exact field_run hT hf hfi hm (by simpa using hq) (vs := vs.toList) ⟨by simp, fun j a v ha hv => by
          simp only [List.getElem?_map, Option.map_eq_some_iff] at ha
          obtain ⟨u, hu, rfl⟩ := ha
          rw [hu] at hv; injection hv with hv; subst hv
          exact .lit _⟩
      · cases h
    · cases h
  · cases h
def aIndexAddr (tab : Tab) (t : TypeId) (x ix : AV) : Ans :=
  match tab t, ix with
  | some i, .lit (.int _ z) => match i.k, x with
    | .slice e, .sl sz n _ f => match tab e with
      | some ei => match Nat.beq ei.sz sz with
        | true => some (0 ≤ z ∧ z < n, .ip (f z.toNat))
        | false => none
      | none => none
    | .slice e, .row id sz off n _ => match tab e with
      | some ei => match Nat.beq ei.sz sz with
        | true => some (0 ≤ z ∧ z < n, .ptr id sz (off + z.toNat) 0)
        | false => none
      | none => none
    | .arr n e, .ptr id sz k o => match tab e with
      | some ei => match Nat.beq ei.sz sz, Nat.beq o 0 with
        | true, true => some (0 ≤ z ∧ z < n, .ptr id sz (k + z.toNat) 0)
        | _, _ => some (0 ≤ z ∧ z < n, .ptr id sz k (o + z.toNat * ei.sz))
      | none => none
    | .arr n e, .ip cs => match tab e with
      | some ei => some (0 ≤ z ∧ z < n, .ip (cs.drop (z.toNat * ei.sz)))
      | none => none
    | _, _ => none
  | _, _ => none
theorem indexAddr_sound (hT : TabOk P tab) {t : TypeId} {x ix r : AV} {q : Prop} (h : aIndexAddr tab t x ix = some (q, r)) (hq : q) {v y : Value} (hv : RV O w μ x v) (hy : RV O w μ ix y) :
    ∃ u, (Instr.indexAt t v y).run P w = .ok u w ∧ RV O w μ r u := by
  unfold aIndexAddr at h
  split at h
  · rename_i i kd z hi
    have hu := (hT t i hi).und
    cases hy
    split at h
    · rename_i e sz n tt f hk
      rw [hk] at hu
      simp only [UndOk] at hu
      split at h
      · rename_i ei he
        have hz := (hT e ei he).run_size (w := w)
        split at h
        · rename_i hb
          obtain rfl := beq_t hb
          injection h with h; injection h with h1 h2; subst h1 h2
          obtain ⟨q1, q2⟩ := hq
          cases hv with
          | sl ho hc hm ht g1 g2 g3 gz hA =>
            rename_i A c vs
            obtain ⟨g, o, rfl, hg, hcell⟩ := hA (by omega)
            have hk0 : z.toNat < n := by omega
            have hle : (z.toNat + 1) * ei.sz ≤ vs.length := by rw [g1]; exact Nat.mul_le_mul_right _ (by omega)
            rw [Nat.add_mul] at hle
            refine ⟨.pointer (some ⟨g, o + z.toNat * ei.sz, none⟩), ?_, .ip (vs := (vs.drop (z.toNat * ei.sz)).take ei.sz) (by rw [g2 _ hk0]; simp; omega) (fun j a v ha hv => ?_) hg ?_ (fun j u hu => ?_)⟩
            · simp [Instr.indexAt, asIntOf, run_underlying hu, q1, q2, hz, Addr.add_mid]
            · rw [List.getElem?_take] at hv
              split at hv
              · exact g3 _ j a v hk0 ha (by simpa using hv)
              · cases hv
            · have h0 : 0 < vs.length := by omega
              exact World.block_lt_of_cell? w _ (hcell 0 _ (List.getElem?_eq_getElem h0))
            · rw [List.getElem?_take] at hu
              split at hu
              · have := hcell (z.toNat * ei.sz + j) u (by simpa using hu)
                rw [Nat.add_assoc]; exact this
              · cases hu
        · cases h
      · cases h
    · rename_i e id sz off n cap hk
      rw [hk] at hu
      simp only [UndOk] at hu
      split at h
      · rename_i ei he
        have hz := (hT e ei he).run_size (w := w)
        split at h
        · rename_i hb
          obtain rfl := beq_t hb
          injection h with h; injection h with h1 h2; subst h1 h2
          obtain ⟨q1, q2⟩ := hq
          cases hv with
          | rowNil h hc => omega
          | rowE => omega
          | row hm hn hc hcap hend =>
            refine ⟨_, ?_, .ptr hm⟩
            simp [Instr.indexAt, asIntOf, run_underlying hu, q1, q2, hz, Addr.add_mid, Nat.add_mul]
        · cases h
      · cases h
    · rename_i n e id sz k o hk
      rw [hk] at hu
      simp only [UndOk] at hu
      split at h
      · rename_i ei he
        have hz := (hT e ei he).run_size (w := w)
        split at h
        · rename_i hb ho
          obtain rfl := beq_t hb
          obtain rfl := beq_t ho
          injection h with h; injection h with h1 h2; subst h1 h2
          obtain ⟨q1, q2⟩ := hq
          cases hv with
          | ptr hm =>
            refine ⟨_, ?_, .ptr hm⟩
            simp [Instr.indexAt, asIntOf, run_underlying hu, q1, q2, hz, Addr.add_mid, Nat.add_mul, Instr.sureAddr]
        · injection h with h; injection h with h1 h2; subst h1 h2
          obtain ⟨q1, q2⟩ := hq
          cases hv with
          | ptr hm =>
            refine ⟨_, ?_, .ptr hm⟩
            simp [Instr.indexAt, asIntOf, run_underlying hu, q1, q2, hz, Addr.add_mid, Nat.add_assoc, Instr.sureAddr]
      · cases h
    · rename_i n e cs hk
      rw [hk] at hu
      simp only [UndOk] at hu
      split at h
      · rename_i ei he
        have hz := (hT e ei he).run_size (w := w)
        injection h with h; injection h with h1 h2; subst h1 h2
        obtain ⟨q1, q2⟩ := hq
        cases hv with
        | ip g1 g2 g3 g4 g5 =>
          rename_i g o vs
          refine ⟨.pointer (some ⟨g, o + z.toNat * ei.sz, none⟩), ?_, .ip (vs := vs.drop (z.toNat * ei.sz)) (by simp [g1]) (fun j a v ha hv => g2 _ a v (by simpa using ha) (by simpa using hv)) g3 g4 (fun j u hu => ?_)⟩
          · simp [Instr.indexAt, asIntOf, run_underlying hu, q1, q2, hz, Addr.add_mid, Instr.sureAddr]
          · rw [Nat.add_assoc]; exact g5 _ u (by simpa using hu)
      · cases h
    · cases h
  · cases h
end Go.Proofs.YthcoccoanpmhgaaDoor
