/- Operations that make an object. -/
import Derived.Test.YthcoccoanpmhgaaDoorAMem
namespace Go.Proofs.YthcoccoanpmhgaaDoor
open Go.RowKit
set_option linter.unusedVariables false
set_option linter.unusedSimpArgs false
set_option linter.unusedSectionVars false
variable {P : Program} {tab : Tab} {X : Nat → Prop} {H H' : List AObj} {μ μ' : Mu} {w w' : World} {O O' : Nat → Prop}

structure NewOk (P : Program) (s : Sem Next) (O : Nat → Prop) (μ : Mu) (w : World) (id : Nat) (r : AV) (o : AObj) : Prop where
  st : o.st = 0
  sz : 0 < o.sz
  le : o.n ≤ maxLen
  flen : ∀ k, k < o.n → (o.f k).length = o.sz
  run : ∃ u cur, s.run P w = .ok (.value u) (w.alloc (.cells cur o.T)) ∧ cur.size = o.n * o.sz ∧ (∀ (k j : Nat) v, k < o.n → j < o.sz → cur[k * o.sz + j]? = some v → v.oneCell' = true) ∧
    (∀ (k j : Nat) a v, k < o.n → (o.f k)[j]? = some a → cur[k * o.sz + j]? = some v → RV O w (if o.pure then noMu else μ) a v) ∧
    ∀ O' w' (μ' : Mu), μ' id = some (some (w.heap.size, o.n)) → RV O' w' μ' r u
abbrev AnsN := Option (Prop × AV × AObj)
def lits (l : List Value) : List AV := l.map .lit
def aNewZero (i : TyI) (tab : Tab) (t id : Nat) : AnsN :=
  match i.k with
  | .arr n e => match tab e with
    | some ei => match Nat.blt 0 ei.sz, Nat.beq i.zero.length ei.sz, Nat.ble n 1000000 with
      | true, true, true => some (True, .ptr id ei.sz 0 0, { T := t, sz := ei.sz, n := n, f := fun _ => lits i.zero })
      | _, _, _ => none
    | none => none
  | _ => match Nat.blt 0 i.sz with
    | true => some (True, .ptr id i.sz 0 0, { T := t, sz := i.sz, n := 1, f := fun _ => lits i.zero, box := true })
    | false => none
theorem newVar_run {t : TypeId} {v : Value} : (do pure (.value (.pointer (some (← newVar t v)))) : Sem Next).run P w = .ok (.value (.pointer (some ⟨w.heap.size, 0, none⟩))) (w.alloc (.cells v.cells t)) := by
  simp [newVar, newRow]
theorem newZero_ok (hT : TabOk P tab) {t id : Nat} {i : TyI} (hi : tab t = some i) {r : AV} {o : AObj} {q : Prop} (h : aNewZero i tab t id = some (q, r, o)) : NewOk P (do pure (.value (← Instr.alloc t true (.tuple #[])))) O μ w id r o := by
  have hty := hT t i hi
  obtain ⟨z, hz, hzc⟩ := hty.zero (w := w)
  have hrun : (do pure (.value (← Instr.alloc t true (.tuple #[]))) : Sem Next).run P w = .ok (.value (.pointer (some ⟨w.heap.size, 0, none⟩))) (w.alloc (.cells z.cells t)) := by
    simp [Instr.alloc, hz, newVar, newRow]
  unfold aNewZero at h
  split at h
  · rename_i n e hk
    split at h
    · rename_i ei he
      split at h
      · rename_i h1 h2 h3
        injection h with h; injection h with _ h; injection h with e1 e2; subst e1 e2
        rw [Nat.blt_eq] at h1
        have h2 := beq_t h2
        have h3 := Nat.ble_eq.mp h3
        have hzc' : z.cells.toList = (List.replicate n i.zero).flatten := by rw [hzc]; unfold TyI.zeroCells; rw [hk]
        have hget : ∀ (k j : Nat) v, k < n → j < ei.sz → z.cells[k * ei.sz + j]? = some v → i.zero[j]? = some v := fun k j v hk hj hv => by
          rw [← Array.getElem?_toList, hzc', ← h2, getElem_flatten_replicate n _ k j hk (by omega)] at hv
          exact hv
        refine ⟨rfl, h1, by unfold maxLen; simp only; omega, fun k hk => by simp [lits, h2], _, _, hrun, ?_, fun k j v hk hj hv => ?_, fun k j a v hk ha hv => ?_, fun O' w' μ' hm => by simpa using RV.ptr (sz := ei.sz) (k := 0) (o := 0) hm⟩
        · rw [← Array.length_toList, hzc']; simp [h2]
        · have hm := hget k j v hk hj hv
          refine hty.zone v ?_
          unfold TyI.zeroCells
          simp only [hk, *]
          exact List.mem_flatten.2 ⟨i.zero, List.mem_replicate.2 ⟨by have : k < n := hk; omega, rfl⟩, List.mem_of_getElem? hm⟩
        · have hj : j < ei.sz := by have := (List.getElem?_eq_some_iff.1 ha).1; simpa [lits, h2] using this
          have hm := hget k j v hk hj hv
          simp only [lits, List.getElem?_map, Option.map_eq_some_iff] at ha
          obtain ⟨u, hu, rfl⟩ := ha
          rw [hu] at hm; injection hm with hm; subst hm
          exact .lit _
      · cases h
    · cases h
  · rename_i hk
    split at h
    · rename_i h1
      injection h with h; injection h with _ h; injection h with e1 e2; subst e1 e2
      rw [Nat.blt_eq] at h1
      have hzc' : i.zeroCells = i.zero := by
        unfold TyI.zeroCells
        split
        · rename_i n e hk'; exact (hk n e hk').elim
        · rfl
      have hlen : i.zero.length = i.sz := by rw [← hzc', hty.zlen]
      rw [hzc'] at hzc
      refine ⟨rfl, h1, by unfold maxLen; simp only; omega, fun k hk => by simp [lits, hlen], _, _, hrun, by rw [← Array.length_toList, hzc, hlen]; simp, fun k j v hk hj hv => ?_, fun k j a v hk ha hv => ?_, fun O' w' μ' hm => by simpa using RV.ptr (sz := i.sz) (k := 0) (o := 0) hm⟩
      · refine hty.zone v ?_
        rw [hzc', ← hzc]
        exact Array.mem_toList_iff.2 (Array.mem_of_getElem? hv)
      · obtain rfl : k = 0 := by simp only at hk; omega
        simp only [Nat.zero_mul, Nat.zero_add] at hv
        rw [← Array.getElem?_toList, hzc] at hv
        simp only [lits, List.getElem?_map, Option.map_eq_some_iff] at ha
        obtain ⟨u, hu, rfl⟩ := ha
        rw [hu] at hv; injection hv with hv; subst hv
        exact .lit _
    · cases h
/-- All cells of a value, where they may lie in memory. -/
def boxCells (a : AV) (sz : Nat) : Option (List AV) :=
  match cellsA a with
  | some cs => match Nat.beq cs.length sz, cs.all oneA with
    | true, true => some cs
    | _, _ => none
  | none => none
theorem boxCells_ok {a : AV} {sz : Nat} {cs : List AV} (h : boxCells a sz = some cs) {v : Value} (hv : RV O w μ a v) : cs.length = sz ∧ RVs O w μ cs v.cells.toList ∧ ∀ u ∈ v.cells.toList, u.oneCell' = true := by
  unfold boxCells at h
  split at h
  · rename_i cs' hc
    split at h
    · rename_i h1 h2
      injection h with h; subst h
      have hr := cellsA_rv hc hv
      refine ⟨beq_t h1, hr, fun u hu => ?_⟩
      obtain ⟨j, hj⟩ := List.getElem?_of_mem hu
      have hlt : j < cs'.length := by rw [hr.1]; exact (List.getElem?_eq_some_iff.1 hj).1
      exact oneA_one (List.all_eq_true.1 h2 _ (List.getElem_mem hlt)) (hr.2 j _ u (List.getElem?_eq_getElem hlt) hj)
    · cases h
  · cases h
def aBox (i : TyI) (t id : Nat) (x : AV) : AnsN :=
  match i.k, x with
  | .arr n _, .arr sz m f => match Nat.blt 0 sz, Nat.ble m 1000000, Nat.beq n m with
    | true, true, true => some (True, .ptr id sz 0 0, { T := t, sz := sz, n := m, f := f })
    | _, _, _ => none
  | .arr _ _, _ => none
  | _, _ => match boxCells x i.sz, Nat.blt 0 i.sz with
    | some cs, true => some (True, .ptr id i.sz 0 0, { T := t, sz := i.sz, n := 1, f := fun _ => cs, box := true, pure := cs.all (idfree 4) })
    | _, _ => none
theorem box_run {t : TypeId} {v : Value} : (do pure (.value (← Instr.box t v)) : Sem Next).run P w = .ok (.value (.pointer (some ⟨w.heap.size, 0, none⟩))) (w.alloc (.cells v.cells t)) := by
  simp [Instr.box, newVar, newRow]
theorem box_ok {i : TyI} {t id : Nat} {x r : AV} {o : AObj} {q : Prop} (h : aBox i t id x = some (q, r, o)) {v : Value} (hv : RV O w μ x v) : NewOk P (do pure (.value (← Instr.box t v))) O μ w id r o := by
  unfold aBox at h
  split at h
  · rename_i n e sz m f hk
    split at h
    · rename_i h1 h2 h3
      injection h with h; injection h with _ h; injection h with e1 e2; subst e1 e2
      rw [Nat.blt_eq] at h1
      have h2 := Nat.ble_eq.mp h2
      cases hv with
      | arr g0 g1 g2 g3 =>
        refine ⟨rfl, h1, by unfold maxLen; simp only; omega, g2, _, _, box_run, by simpa [Value.cells] using g1, fun k j v hk hj hv => g0 v (List.mem_of_getElem? (by simpa [Value.cells] using hv)), fun k j a v hk ha hv => g3 k j a v hk ha (by simpa [Value.cells] using hv), fun O' w' μ' hm => by simpa using RV.ptr (sz := sz) (k := 0) (o := 0) hm⟩
    · cases h
  · cases h
  · split at h
    · rename_i cs hc h1
      injection h with h; injection h with _ h; injection h with e1 e2; subst e1 e2
      rw [Nat.blt_eq] at h1
      obtain ⟨g1, g2, g3⟩ := boxCells_ok hc hv
      refine ⟨rfl, h1, by unfold maxLen; simp only; omega, fun k hk => g1, _, _, box_run, by rw [← Array.length_toList, ← g2.1, g1]; simp, fun k j v hk hj hv => g3 v (Array.mem_toList_iff.2 (Array.mem_of_getElem? hv)), fun k j a v hk ha hv => ?_, fun O' w' μ' hm => by simpa using RV.ptr (sz := i.sz) (k := 0) (o := 0) hm⟩
      obtain rfl : k = 0 := by simp only at hk; omega
      have hr := g2.2 j a v ha (by simpa using hv)
      simp only
      split
      · rename_i hp; exact idfree_rv 4 (List.all_eq_true.1 hp _ (List.mem_of_getElem? ha)) hr
      · exact hr
    · cases h

/-! literals of slices -/
def partsCells (ev : Operand → AV) (sz : Nat) : Nat → List (Nat × Operand) → Option (List (List AV))
  | _, [] => some []
  | k, (i, x) :: rest => match Nat.beq i k, boxCells (ev x) sz, partsCells ev sz (k + 1) rest with
    | true, some cs, some r => some (cs :: r)
    | _, _, _ => none
def getC (css : List (List AV)) (k : Nat) : List AV := (nth css k).getD []
def aBuildSlice (tab : Tab) (ev : Operand → AV) (t len : Nat) (parts : List (Nat × Operand)) (id : Nat) : AnsN :=
  match tab t with
  | some i => match i.k with
    | .slice e => match tab e with
      | some ei => match partsCells ev ei.sz 0 parts, Nat.beq parts.length len, Nat.blt 0 ei.sz, Nat.ble (len * ei.sz) 16777216 with
        | some css, true, true, true => some (True, .row id ei.sz 0 len none, { T := e, sz := ei.sz, n := len, f := getC css, pure := css.all fun cs => cs.all (idfree 4) })
        | _, _, _, _ => none
      | none => none
    | _ => none
  | none => none
theorem getElem_flatten {α : Type} (sz : Nat) : ∀ (l : List (List α)) (k j : Nat), (∀ c ∈ l, c.length = sz) → j < sz → l.flatten[k * sz + j]? = (l[k]?).bind (·[j]?)
  | [], k, j, _, _ => by simp
  | c :: l, 0, j, h, hj => by
    have := h c (by simp)
    rw [List.flatten_cons, List.getElem?_append_left (by omega)]; simp
  | c :: l, k + 1, j, h, hj => by
    have := h c (by simp)
    rw [List.flatten_cons, List.getElem?_append_right (by rw [Nat.add_mul]; omega)]
    rw [show (k + 1) * sz + j - c.length = k * sz + j by rw [Nat.add_mul]; omega, getElem_flatten sz l k j (fun c hc => h c (by simp [hc])) hj]
    simp
theorem fill_row (sz : Nat) : ∀ (parts : List (Nat × Value)) (k : Nat) (cells : Array Value), (∀ (j : Nat) p, parts[j]? = some p → p.1 = k + j ∧ p.2.cells.size = sz) → (k + parts.length) * sz = cells.size →
    ∃ rs : Array Value, Instr.fill (fun i => some (i * sz, sz)) cells parts = some rs ∧ rs.toList = cells.toList.take (k * sz) ++ (parts.map (·.2.cells.toList)).flatten
  | [], k, cells, h, hs => ⟨cells, rfl, by
    simp only [List.length_nil, Nat.add_zero] at hs
    rw [List.take_of_length_le (by simp; omega)]; simp⟩
  | (i, v) :: rest, k, cells, h, hs => by
    obtain ⟨h0, h1⟩ := h 0 (i, v) rfl
    simp only [Nat.add_zero] at h0 h1
    subst h0
    have hz : v.cells.zipIdx.foldl (fun cs (c, j) => cs.setIfInBounds (i * sz + j) c) cells = (v.cells.toList.zipIdx 0).foldl (fun cs (c, j) => cs.setIfInBounds (i * sz + j) c) cells := by
      rw [← Array.foldl_toList, Array.toList_zipIdx]
    simp only [List.length_cons] at hs
    have hb : i * sz + v.cells.size ≤ cells.size := by
      rw [← hs, h1, show i + (rest.length + 1) = (i + 1) + rest.length by omega, Nat.add_mul (i + 1), Nat.add_mul i 1]; omega
    have hf := fold_set (i * sz) v.cells.toList 0 cells (by simp; omega)
    simp only [Nat.add_zero] at hf
    obtain ⟨rs, g1, g2⟩ := fill_row sz rest (i + 1) (v.cells.zipIdx.foldl (fun cs (c, j) => cs.setIfInBounds (i * sz + j) c) cells) (fun j p hp => by
      have := h (j + 1) p (by simpa using hp)
      exact ⟨by omega, this.2⟩) (by rw [hz, ← Array.length_toList, hf, splice_length _ _ _ (by simp; omega)]; simp; rw [← hs]; congr 1; omega)
    refine ⟨rs, ?_, ?_⟩
    · simp only [Instr.fill]
      rw [if_neg (by simp; omega)]
      exact g1
    · rw [g2, hz, hf]
      unfold splice
      rw [List.take_left' (by simp [h1, Nat.add_mul]; omega)]
      simp
theorem partsCells_ok {ev : Operand → AV} {ρ : Operand → Value} (hr : ∀ x, RV O w μ (ev x) (ρ x)) (sz : Nat) : ∀ (parts : List (Nat × Operand)) (k : Nat) {css : List (List AV)}, partsCells ev sz k parts = some css →
    css.length = parts.length ∧ ∀ (j : Nat) p, parts[j]? = some p → p.1 = k + j ∧ (ρ p.2).cells.size = sz ∧ (∀ u ∈ (ρ p.2).cells.toList, u.oneCell' = true) ∧ ∃ cs, css[j]? = some cs ∧ cs.length = sz ∧ RVs O w μ cs (ρ p.2).cells.toList
  | [], k, css, h => by
    simp only [partsCells] at h
    injection h with h; subst h
    exact ⟨rfl, fun j p hp => by simp at hp⟩
  | (i, x) :: rest, k, css, h => by
    simp only [partsCells] at h
    split at h
    · rename_i cs r h1 h2 h3
      injection h with h; subst h
      obtain ⟨g1, g2⟩ := partsCells_ok hr sz rest (k + 1) h3
      obtain ⟨b1, b2, b3⟩ := boxCells_ok h2 (hr x)
      refine ⟨by simp [g1], fun j p hp => ?_⟩
      cases j with
      | zero =>
        simp at hp; subst hp
        exact ⟨by have := beq_t h1; omega, by rw [← Array.length_toList, ← b2.1, b1], b3, cs, rfl, b1, b2⟩
      | succ j =>
        obtain ⟨e1, e2, e3, cs', e4, e5, e6⟩ := g2 j p (by simpa using hp)
        exact ⟨by omega, e2, e3, cs', by simpa using e4, e5, e6⟩
    · cases h
theorem buildSlice_ok (hT : TabOk P tab) {ev : Operand → AV} {ρ : Operand → Value} (hr : ∀ x, RV O w μ (ev x) (ρ x)) {t len id : Nat} {parts : Array (Nat × Operand)} {r : AV} {o : AObj} {q : Prop} (h : aBuildSlice tab ev t len parts.toList id = some (q, r, o)) :
    NewOk P (do pure (.value (← Instr.buildSlice t len (parts.map fun (i, x) => (i, ρ x))))) O μ w id r o := by
  unfold aBuildSlice at h
  split at h
  · rename_i i hi
    have hu := (hT t i hi).und
    split at h
    · rename_i e hk
      rw [hk] at hu; simp only [UndOk] at hu
      split at h
      · rename_i ei he
        have hty := hT e ei he
        obtain ⟨z, hz, hzc⟩ := hty.zero (w := w)
        split at h
        · rename_i css h1 h2 h3 h4
          injection h with h; injection h with _ h; injection h with e1 e2; subst e1 e2
          have h2 := beq_t h2
          rw [Nat.blt_eq] at h3
          have h4 := Nat.ble_eq.mp h4
          obtain ⟨g1, g2⟩ := partsCells_ok hr ei.sz parts.toList 0 h1
          have hzs : z.cells.size = ei.sz := by rw [← Array.length_toList, hzc, hty.zlen]
          have hlen : len ≤ len * ei.sz := Nat.le_mul_of_pos_right _ h3
          obtain ⟨cells0, hc0, hc0s⟩ : ∃ cells0 : Array Value, (if len * ei.sz = 0 then (pure #[] : Sem (Array Value)) else do pure (← zeroValue e).cells).run P w = .ok (if len * ei.sz = 0 then #[] else z.cells) w ∧ (Array.range (len * ei.sz)).map (fun x => (if len * ei.sz = 0 then (#[] : Array Value) else z.cells)[x % (if len * ei.sz = 0 then (#[] : Array Value) else z.cells).size]!) = cells0 := by
            refine ⟨_, ?_, rfl⟩
            split
            · rfl
            · simp [hz]
          have hcs : cells0.size = len * ei.sz := by rw [← hc0s]; simp
          let vparts : List (Nat × Value) := parts.toList.map fun p => (p.1, ρ p.2)
          obtain ⟨rs, f1, f2⟩ := fill_row ei.sz vparts 0 cells0 (fun j p hp => by
            simp only [vparts, List.getElem?_map, Option.map_eq_some_iff] at hp
            obtain ⟨p', hp', rfl⟩ := hp
            exact ⟨(g2 j p' hp').1, (g2 j p' hp').2.1⟩) (by rw [hcs]; simp [vparts]; simp at h2; rw [h2])
          simp only [Nat.zero_mul, List.take_zero, List.nil_append] at f2
          have hflen : ∀ c ∈ vparts.map (·.2.cells.toList), c.length = ei.sz := by
            intro c hc
            obtain ⟨p, hp, rfl⟩ := List.mem_map.1 hc
            obtain ⟨j, hj⟩ := List.getElem?_of_mem hp
            simp only [vparts, List.getElem?_map, Option.map_eq_some_iff] at hj
            obtain ⟨p', hp', rfl⟩ := hj
            simpa using (g2 j p' hp').2.1
          have hget : ∀ (k j : Nat) v, k < len → j < ei.sz → rs[k * ei.sz + j]? = some v → ∃ p, parts.toList[k]? = some p ∧ (ρ p.2).cells.toList[j]? = some v := by
            intro k j v hk hj hv
            rw [← Array.getElem?_toList, f2, getElem_flatten ei.sz _ _ _ hflen hj] at hv
            obtain ⟨p, hp⟩ : ∃ p, parts.toList[k]? = some p := ⟨_, List.getElem?_eq_getElem (by omega)⟩
            simp only [vparts, List.map_map, List.getElem?_map, hp, Option.map_some, Option.bind_some, Function.comp] at hv
            exact ⟨p, hp, hv⟩
          have hrs : rs.size = len * ei.sz := by
            rw [← Array.length_toList, f2, List.length_flatten]
            have : (vparts.map (·.2.cells.toList)).map List.length = List.replicate len ei.sz := by
              rw [List.eq_replicate_iff]
              refine ⟨by simp [vparts]; simpa using h2, fun b hb => ?_⟩
              obtain ⟨c, hc, rfl⟩ := List.mem_map.1 hb
              exact hflen c hc
            rw [this]; simp
          have hrun : (do pure (.value (← Instr.buildSlice t len (parts.map fun (i, x) => (i, ρ x)))) : Sem Next).run P w = .ok (.value (.slice (some ⟨w.heap.size, 0, none⟩) len len)) (w.alloc (.cells rs e)) := by
            have hp : (parts.map fun (i, x) => (i, ρ x)).toList = vparts := by simp [vparts]
            have hif : ¬ len * ei.sz > 2 ^ 24 := by omega
            simp only [Instr.buildSlice, Sem.run_bind, run_underlying hu, Result.andThen_ok, hty.run_size, if_neg hif, hp, newRow, Sem.run_pure, Sem.run_ite]
            by_cases h0 : len * ei.sz = 0
            · simp only [if_pos h0] at hc0s ⊢
              rw [hc0s, f1]
              simp
            · simp only [if_neg h0] at hc0s ⊢
              rw [hz]
              simp only [Result.andThen_ok]
              rw [hc0s, f1]
              simp
          refine ⟨rfl, h3, by unfold maxLen; simp only; omega, fun k hk => ?_, _, _, hrun, hrs, fun k j v hk hj hv => ?_, fun k j a v hk ha hv => ?_, fun O' w' μ' hm => ?_⟩
          · obtain ⟨p, hp⟩ : ∃ p, parts.toList[k]? = some p := ⟨_, List.getElem?_eq_getElem (by have : k < len := hk; omega)⟩
            obtain ⟨_, _, _, cs, hcs', hl, _⟩ := g2 k p hp
            simp only [getC, nth_eq, hcs', Option.getD_some, hl]
          · obtain ⟨p, hp, hv'⟩ := hget k j v hk hj hv
            exact (g2 k p hp).2.2.1 v (List.mem_of_getElem? hv')
          · have hk : k < len := hk
            obtain ⟨p0, hp0⟩ : ∃ p, parts.toList[k]? = some p := ⟨_, List.getElem?_eq_getElem (by omega)⟩
            obtain ⟨_, _, _, cs, hcs', hl, hrv⟩ := g2 k p0 hp0
            simp only [getC, nth_eq, hcs', Option.getD_some] at ha
            have hj : j < ei.sz := by have := (List.getElem?_eq_some_iff.1 ha).1; omega
            obtain ⟨p, hp, hv'⟩ := hget k j v hk hj hv
            rw [hp0] at hp; injection hp with hp; subst hp
            have hr1 := hrv.2 j a v ha hv'
            simp only
            split
            · rename_i hpu
              exact idfree_rv 4 (List.all_eq_true.1 (List.all_eq_true.1 hpu _ (List.mem_of_getElem? hcs')) _ (List.mem_of_getElem? ha)) hr1
            · exact hr1
          · have hm : μ' id = some (some (w.heap.size, len)) := hm
            have := RV.row (O := O') (w := w') (sz := ei.sz) (off := 0) (n := len) (c := len) (cap := none) hm (Nat.le_refl _) (by omega) (fun q hq => by cases hq) (fun _ => by omega)
            simpa using this
        · cases h
      · cases h
    · cases h
  · cases h
def aMakeSlice (tab : Tab) (t : TypeId) (l c : AV) (id : Nat) : AnsN :=
  match tab t, l, c with
  | some i, .lit (.int _ z), .lit (.int _ z') => match i.k with
    | .slice e => match tab e with
      | some ei => match Nat.blt 0 ei.sz, ei.k.isAgg with
        | true, _ => some (z' = z ∧ 0 ≤ z ∧ z ≤ 1000000000000 ∧ z * ei.by_ ≤ 140737488355328, .row id ei.sz 0 z.toNat none, { T := e, sz := ei.sz, n := z.toNat, f := fun _ => lits ei.zeroCells })
        | _, _ => none
      | none => none
    | _ => none
  | _, _, _ => none
theorem makeSlice_ok (hT : TabOk P tab) {t id : Nat} {l c : AV} {r : AV} {o : AObj} {q : Prop} (h : aMakeSlice tab t l c id = some (q, r, o)) (hq : q) {lv cv : Value} (hl : RV O w μ l lv) (hc : RV O w μ c cv) :
    NewOk P (do pure (.value (← Instr.makeSlice t lv cv))) O μ w id r o := by
  unfold aMakeSlice at h
  split at h
  · rename_i i kl z kc z' hi
    have hu := (hT t i hi).und
    split at h
    · rename_i e hk
      rw [hk] at hu; simp only [UndOk] at hu
      split at h
      · rename_i ei he
        have hty := hT e ei he
        obtain ⟨f, hf, hfs, hfb, zv, hzv, hzc⟩ := hty.info
        split at h
        · rename_i h1
          injection h with h; injection h with e0 h; injection h with e1 e2; subst e0 e1 e2
          obtain ⟨rfl, q1, q2, q3⟩ := hq
          rw [Nat.blt_eq] at h1
          cases hl; cases hc
          have hrun := run_make (P := P) w t e f zv hu hf hzv kl kc z' z' q1 (Int.le_refl _) (by rw [hfb, Int.mul_comm]; omega) (by omega)
          have hzs : zv.cells.size = ei.sz := by rw [← Array.length_toList, hzc, hty.zlen]
          have hget : ∀ (k j : Nat) v, k < z'.toNat → j < ei.sz → (madeCells zv.cells (z'.toNat * f.size))[k * ei.sz + j]? = some v → ei.zeroCells[j]? = some v := by
            intro k j v hk hj hv
            have hlt : k * ei.sz + j < z'.toNat * ei.sz := by
              have : (k + 1) * ei.sz ≤ z'.toNat * ei.sz := Nat.mul_le_mul_right _ hk
              rw [Nat.add_mul] at this; omega
            have hmod : (k * ei.sz + j) % zv.cells.size = j := by rw [hzs, Nat.mul_comm, Nat.mul_add_mod]; exact Nat.mod_eq_of_lt hj
            simp only [madeCells, hfs, Array.getElem?_map, Array.getElem?_range, hlt, if_true, Option.map_some, Option.some.injEq] at hv
            rw [hmod] at hv
            rw [← hzc, ← hv, Array.getElem?_toList, Array.getElem?_eq_getElem (by omega)]
            simp [show j < zv.cells.size by omega]
          refine ⟨rfl, h1, by unfold maxLen; simp only; omega, fun k hk => by simp [lits, hty.zlen], _, _, (by simp only [Sem.run_bind, hrun, Result.andThen_ok, Sem.run_pure]; rfl), by rw [size_madeCells, hfs], fun k j v hk hj hv => hty.zone v (List.mem_of_getElem? (hget k j v hk hj hv)), fun k j a v hk ha hv => ?_, fun O' w' μ' hm => ?_⟩
          · have hj : j < ei.sz := by have := (List.getElem?_eq_some_iff.1 ha).1; simpa [lits, hty.zlen] using this
            have hm := hget k j v hk hj hv
            simp only [lits, List.getElem?_map, Option.map_eq_some_iff] at ha
            obtain ⟨u, hu, rfl⟩ := ha
            rw [hu] at hm; injection hm with hm; subst hm
            exact .lit _
          · have hm : μ' id = some (some (w.heap.size, z'.toNat)) := hm
            have := RV.row (O := O') (w := w') (sz := ei.sz) (off := 0) (n := z'.toNat) (c := z'.toNat) (cap := none) hm (Nat.le_refl _) (by omega) (fun q hq => by cases hq) (fun _ => by omega)
            simpa using this
        · cases h
      · cases h
    · cases h
  · cases h
/-- What an operation makes. -/
def aNew (tab : Tab) (ev : Operand → AV) (id : Nat) : Op → AnsN
  | .alloc t => match tab t with | some i => aNewZero i tab t id | none => none
  | .box t x => match tab t with | some i => aBox i t id (ev x) | none => none
  | .buildSlice t len parts => aBuildSlice tab ev t len parts.toList id
  | .makeSlice t l c => aMakeSlice tab t (ev l) (ev c) id
  | _ => none
theorem new_ok (hT : TabOk P tab) {ev : Operand → AV} {ρ : Operand → Value} (hr : ∀ x, RV O w μ (ev x) (ρ x)) {id : Nat} {r : AV} {ob : AObj} {q : Prop} {o : Oper} (h : aNew tab ev id o.op = some (q, r, ob)) (hq : q) : NewOk P (execOp ρ o) O μ w id r ob := by
  unfold execOp
  generalize o.op = op at h
  cases op <;> simp only [aNew, reduceCtorEq] at h <;> try (cases h; done)
  all_goals dsimp only
  case alloc t => split at h; exact newZero_ok hT ‹_› h; cases h
  case box t x => split at h; exact box_ok h (hr x); cases h
  case buildSlice t len parts => exact buildSlice_ok hT hr h
  case makeSlice t l c => exact makeSlice_ok hT h hq (hr l) (hr c)
end Go.Proofs.YthcoccoanpmhgaaDoor
