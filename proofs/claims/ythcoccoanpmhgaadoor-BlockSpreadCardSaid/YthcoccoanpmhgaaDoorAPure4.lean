/- Operations that write nothing: literals of structs and arrays, conversions, lengths; all of them (aPure). -/
import Derived.Test.YthcoccoanpmhgaaDoorAPure3
namespace Go.Proofs.YthcoccoanpmhgaaDoor
open Go.RowKit
set_option linter.unusedVariables false
set_option linter.unusedSimpArgs false
set_option linter.unusedSectionVars false
variable {P : Program} {tab : Tab} {X : Nat → Prop} {H : List AObj} {μ : Mu} {w : World} {O : Nat → Prop}

def splice {α : Type} (cells : List α) (off : Nat) (cs : List α) : List α := cells.take off ++ cs ++ cells.drop (off + cs.length)
theorem splice_length {α : Type} (cells : List α) (off : Nat) (cs : List α) (h : off + cs.length ≤ cells.length) : (splice cells off cs).length = cells.length := by
  simp [splice]; omega
theorem RVs.splice_ {cells cs : List AV} {us vs : List Value} {off : Nat} (h : RVs O w μ cells us) (h' : RVs O w μ cs vs) : RVs O w μ (splice cells off cs) (splice us off vs) := by
  unfold splice
  rw [h'.1]
  exact ((h.take _).append h').append (h.drop _)
theorem splice_set (L : List Value) (k : Nat) (v : Value) (vs : List Value) (h : k < L.length) : splice (L.set k v) (k + 1) vs = splice L k (v :: vs) := by
  unfold splice
  have h1 : (L.set k v).take (k + 1) = L.take k ++ [v] := by
    rw [List.take_succ_eq_append_getElem (by simpa using h), List.getElem_set_self, List.take_set_of_le (Nat.le_refl _)]
  rw [h1, List.drop_set_of_lt (by omega)]
  simp [Nat.add_comm, Nat.add_left_comm]
theorem fold_set (off : Nat) : ∀ (vs : List Value) (j : Nat) (cells : Array Value), off + j + vs.length ≤ cells.size →
    (((vs.zipIdx j).foldl (fun cs (c, j) => cs.setIfInBounds (off + j) c) cells : Array Value)).toList = splice cells.toList (off + j) vs
  | [], j, cells, h => by simp [splice]
  | v :: vs, j, cells, h => by
    simp only [List.zipIdx_cons, List.foldl_cons]
    rw [fold_set off vs (j + 1) _ (by simp at h ⊢; omega)]
    simp at h
    rw [Array.toList_setIfInBounds]
    exact splice_set _ _ v vs (by simp; omega)
def fillA (place : Nat → Option (Nat × Nat)) : List AV → List (Nat × AV) → Option (List AV)
  | cells, [] => some cells
  | cells, (i, a) :: rest => match place i, cellsA a with
    | some (off, size), some cs => match Nat.beq cs.length size, Nat.ble (off + size) cells.length with
      | true, true => fillA place (splice cells off cs) rest
      | _, _ => none
    | _, _ => none
theorem fill_sound {place place' : Nat → Option (Nat × Nat)} (hp : ∀ i x, place i = some x → place' i = some x) : ∀ (parts : List (Nat × AV)) (cells r : List AV) (us : Array Value) (vparts : List (Nat × Value)), fillA place cells parts = some r → RVs O w μ cells us.toList →
    parts.length = vparts.length → (∀ (j : Nat) i a i' v, parts[j]? = some (i, a) → vparts[j]? = some (i', v) → i = i' ∧ RV O w μ a v) → ∃ rs : Array Value, Instr.fill place' us vparts = some rs ∧ RVs O w μ r rs.toList
  | [], cells, r, us, [], h, hr, hl, hv => by
    simp only [fillA] at h
    injection h with h; subst h
    exact ⟨us, rfl, hr⟩
  | [], cells, r, us, _ :: _, h, hr, hl, hv => by simp at hl
  | _ :: _, cells, r, us, [], h, hr, hl, hv => by simp at hl
  | (i, a) :: rest, cells, r, us, (i', v) :: vrest, h, hr, hl, hv => by
    obtain ⟨rfl, hav⟩ := hv 0 i a i' v rfl rfl
    simp only [fillA] at h
    split at h
    · rename_i off size cs hpl hcs
      split at h
      · rename_i h1 h2
        have h1 := beq_t h1
        have h2 := Nat.ble_eq.mp h2
        have hc := cellsA_rv hcs hav
        have hsz : v.cells.size = size := by rw [← h1, hc.1]; simp
        have hus : us.size = cells.length := by rw [hr.1]; simp
        have hf := fold_set off v.cells.toList 0 us (by simp; omega)
        simp only [Nat.add_zero] at hf
        have hz : v.cells.zipIdx.foldl (fun cs (c, j) => cs.setIfInBounds (off + j) c) us = (v.cells.toList.zipIdx 0).foldl (fun cs (c, j) => cs.setIfInBounds (off + j) c) us := by
          rw [← Array.foldl_toList, Array.toList_zipIdx]
        obtain ⟨rs, g1, g2⟩ := fill_sound hp rest _ r (v.cells.zipIdx.foldl (fun cs (c, j) => cs.setIfInBounds (off + j) c) us) vrest h (by rw [hz, hf]; exact hr.splice_ hc) (by simpa using hl) fun j i a i' v ha hv' => hv (j + 1) i a i' v (by simpa using ha) (by simpa using hv')
        refine ⟨rs, ?_, g2⟩
        simp only [Instr.fill, hp _ _ hpl, hsz]
        rw [if_neg (by simp; omega)]
        exact g1
      · cases h
    · cases h
theorem getElem_flatten_replicate {α : Type} (n : Nat) (l : List α) (k j : Nat) (hk : k < n) (hj : j < l.length) : (List.replicate n l).flatten[k * l.length + j]? = l[j]? := by
  induction n generalizing k with
  | zero => omega
  | succ n ih =>
    rw [List.replicate_succ, List.flatten_cons]
    cases k with
    | zero => rw [List.getElem?_append_left (by omega)]; simp
    | succ k =>
      rw [List.getElem?_append_right (by rw [Nat.add_mul]; omega)]
      rw [show (k + 1) * l.length + j - l.length = k * l.length + j by rw [Nat.add_mul]; omega]
      exact ih k (by omega)
def aBuild (tab : Tab) (t : TypeId) (parts : List (Nat × AV)) : Option AV :=
  match tab t with
  | some i => match i.k with
    | .struct fs => if (fs.all fun p => (tab p.2).isSome) = true then (fillA (fun k => (nth fs k).bind fun p => (tab p.2).map fun fi => (p.1, fi.sz)) (i.zero.map .lit) parts).map .agg else none
    | .arr n e => match tab e with
      | some ei => match parts with
        | [] => match Nat.beq i.zero.length ei.sz with
          | true => some (.arr ei.sz n fun _ => i.zero.map .lit)
          | false => none
        | _ => (fillA (fun k => some (k * ei.sz, ei.sz)) ((List.replicate n (i.zero.map AV.lit)).flatten) parts).map .agg
      | none => none
    | _ => none
  | none => none
theorem RVs.lits (vs : List Value) : RVs O w μ (vs.map .lit) vs := ⟨by simp, fun j a v ha hv => by
  simp only [List.getElem?_map, Option.map_eq_some_iff] at ha
  obtain ⟨u, hu, rfl⟩ := ha
  rw [hu] at hv; injection hv with hv; subst hv
  exact .lit _⟩
theorem mapM_size {fields : Array Field} {szs : List (Nat × Nat)} : ∀ (l : List Field) (szs : List (Nat × Nat)), l.length = szs.length → (∀ (j : Nat) (f : Field) (p : Nat × Nat), l[j]? = some f → szs[j]? = some p → (do pure (f.offset, ← sizeOf f.type) : Sem (Nat × Nat)).run P w = .ok p w) →
    (l.mapM fun f => (do pure (f.offset, ← sizeOf f.type) : Sem (Nat × Nat))).run P w = .ok szs w
  | [], [], _, _ => by simp
  | [], _ :: _, h, _ => by simp at h
  | _ :: _, [], h, _ => by simp at h
  | f :: l, p :: szs, h, hr => by
    have h0 := hr 0 f p rfl rfl
    have ih := mapM_size (fields := fields) (szs := szs) l szs (by simpa using h) fun j f p hf hp => hr (j + 1) f p (by simpa using hf) (by simpa using hp)
    rw [List.mapM_cons, Sem.run_bind, h0]
    simp only [Result.andThen_ok, Sem.run_bind, ih, Sem.run_pure]
theorem build_sound (hT : TabOk P tab) {t : TypeId} {parts : List (Nat × AV)} {r : AV} (h : aBuild tab t parts = some r) {vparts : List (Nat × Value)} (hl : parts.length = vparts.length)
    (hv : ∀ (j : Nat) i a i' v, parts[j]? = some (i, a) → vparts[j]? = some (i', v) → i = i' ∧ RV O w μ a v) : ∃ u, (Instr.build t vparts.toArray).run P w = .ok u w ∧ RV O w μ r u := by
  unfold aBuild at h
  split at h
  · rename_i i hi
    have hty := hT t i hi
    obtain ⟨z, hz, hzc⟩ := hty.zero (w := w)
    have hu := hty.und
    split at h
    · rename_i fs hk
      rw [hk] at hu
      obtain ⟨fields, hf, hm⟩ := hu
      split at h
      · rename_i hall
        simp only [Option.map_eq_some_iff] at h
        obtain ⟨cs, hfill, rfl⟩ := h
        have hzc' : z.cells.toList = i.zero := by rw [hzc]; unfold TyI.zeroCells; rw [hk]
        let szs : List (Nat × Nat) := fs.map fun p => (p.1, ((tab p.2).map (·.sz)).getD 0)
        have hrun := mapM_size (P := P) (w := w) (fields := fields) (szs := szs) fields.toList szs (by simp [szs, ← hm]) fun j f p hj hp => by
          simp only [szs, ← hm, List.map_map, List.getElem?_map, hj, Option.map_some, Option.some.injEq, Function.comp] at hp
          have hmem : (f.offset, f.type) ∈ fs := by rw [← hm]; exact List.mem_map.2 ⟨f, List.mem_of_getElem? hj, rfl⟩
          have hs := List.all_eq_true.1 hall _ hmem
          obtain ⟨fi, hfi⟩ := Option.isSome_iff_exists.1 hs
          simp only at hfi
          rw [hfi] at hp
          rw [← hp]
          simp [(hT _ _ hfi).run_size]
        obtain ⟨rs, g1, g2⟩ := fill_sound (w := w) (O := O) (μ := μ) (place' := fun k => szs.toArray[k]?) (fun k x hx => by
          simp only [Option.bind_eq_some_iff, Option.map_eq_some_iff] at hx
          obtain ⟨p, hp, fi, hfi, rfl⟩ := hx
          rw [nth_eq] at hp
          simp [szs, hp, hfi]) parts _ cs z.cells vparts hfill (by rw [hzc']; exact RVs.lits _) hl hv
        refine ⟨.agg rs, ?_, .agg g2.1 g2.2⟩
        have hmm : (fields.mapM fun f => (do pure (f.offset, ← sizeOf f.type) : Sem (Nat × Nat))).run P w = .ok szs.toArray w := by
          rw [Array.mapM_eq_mapM_toList, Sem.run_map, hrun]; rfl
        simp only [Instr.build, Sem.run_bind, hz, Result.andThen_ok, run_underlying hf, hmm, g1, Sem.run_pure]
      · cases h
    · rename_i n e hk
      rw [hk] at hu
      split at h
      · rename_i ei he
        split at h
        · split at h
          · rename_i hb
            injection h with h
            subst h
            have hzl := beq_t hb
            have hv0 : vparts = [] := by simpa using hl.symm
            subst hv0
            have hzc' : z.cells.toList = (List.replicate n i.zero).flatten := by rw [hzc]; unfold TyI.zeroCells; rw [hk]
            refine ⟨.agg z.cells, ?_, ?_⟩
            · simp only [UndOk] at hu
              simp only [Instr.build, Sem.run_bind, hz, Result.andThen_ok, run_underlying hu, (hT e ei he).run_size, Sem.run_pure]
              simp [Instr.fill]
            · have e1 : z.cells = (z.cells.toList).toArray := by simp
              rw [e1]
              refine .arr (fun u hu => hty.zone u (by rw [← hzc]; exact hu)) (by rw [hzc']; simp [hzl]) (fun k _ => by simp [hzl]) fun k j a v hk' ha hv' => ?_
              rw [hzc', ← hzl] at hv'
              simp only [List.getElem?_map, Option.map_eq_some_iff] at ha
              obtain ⟨x, hx, rfl⟩ := ha
              rw [getElem_flatten_replicate n i.zero k j hk' (List.getElem?_eq_some_iff.1 hx).1, hx] at hv'
              injection hv' with hv'; subst hv'
              exact .lit _
          · cases h
        rename_i hnp
        simp only [Option.map_eq_some_iff] at h
        obtain ⟨cs, hfill, rfl⟩ := h
        have hzc' : z.cells.toList = (List.replicate n i.zero).flatten := by rw [hzc]; unfold TyI.zeroCells; rw [hk]
        obtain ⟨rs, g1, g2⟩ := fill_sound (w := w) (O := O) (μ := μ) (place' := fun k => some (k * ei.sz, ei.sz)) (fun k x hx => hx) parts _ cs z.cells vparts hfill (by
          rw [hzc']
          have : (List.replicate n (i.zero.map AV.lit)).flatten = ((List.replicate n i.zero).flatten).map AV.lit := by rw [List.map_flatten, List.map_replicate]
          rw [this]; exact RVs.lits _) hl hv
        refine ⟨.agg rs, ?_, .agg g2.1 g2.2⟩
        simp only [UndOk] at hu
        simp only [Instr.build, Sem.run_bind, hz, Result.andThen_ok, run_underlying hu, (hT e ei he).run_size, g1, Sem.run_pure]
      · cases h
    · cases h
  · cases h

/-! conversions, lengths -/
/-- The octets of a slice. -/
def octets (n : Nat) (f : Nat → List AV) : List UInt8 := (List.range n).map fun k => match f k with | [.lit (.int .u8 x)] => UInt8.ofNat x.toNat | _ => 0
def isOctets (n : Nat) (f : Nat → List AV) : Prop := ∀ k, k < n → ∃ x : UInt8, f k = [.lit (.int .u8 x.toNat)]
def aConv (tab : Tab) (src dst : TypeId) (x : AV) : Ans :=
  match tab src, tab dst with
  | some si, some di => match di.k, x with
    | .int k, .lit (.int _ z) => some (True, .lit (.int k (k.wrap z)))
    | .str, .lit (.string s) => some (True, .lit (.string s))
    | .str, .sl 1 n _ f => match si.k with
      | .slice e => match tab e with
        | some ei => match ei.k with
          | .int .u8 => some (isOctets n f, .lit (.string (str (octets n f))))
          | _ => none
        | none => none
      | _ => none
    | .str, .lit (.slice none 0 0) => match si.k with
      | .slice e => match tab e with
        | some ei => match ei.k with
          | .int .u8 => some (True, .lit (.string (str [])))
          | _ => none
        | none => none
      | _ => none
    | _, _ => none
  | _, _ => none
theorem octets_sl {n : Nat} {f : Nat → List AV} (h : isOctets n f) {v : Value} {t : Bool} (hv : RV O w μ (.sl 1 n t f) v) : Sl kU8 w O v (octets n f) := by
  cases hv with
  | sl go g0 gm gt g1 g2 g3 gz hA =>
    rename_i A c vs
    have hlen : (octets n f).length = n := by simp [octets]
    refine ⟨A, c, by rw [hlen], by rw [hlen]; exact g0, gm, fun hx => ?_⟩
    obtain ⟨g, o, rfl, hg, hcell⟩ := hA (fun h => hx (List.eq_nil_of_length_eq_zero (by rw [hlen]; exact h)))
    refine ⟨_, vs, rfl, hg, Reps.u8_map.2 ?_, fun j u hu => by rw [Addr.add_mid]; exact hcell j u hu⟩
    apply List.ext_getElem?
    intro k
    by_cases hk : k < n
    · obtain ⟨x, hx⟩ := h k hk
      have hv := g3 k 0 (.lit (.int .u8 x.toNat)) (vs[k]'(by omega)) hk (by rw [hx]; rfl) (by simp [show k < vs.length by omega])
      rw [List.getElem?_eq_getElem (by omega)]
      simp only [octets, List.map_map, List.getElem?_map, List.getElem?_range hk, Option.map_some, Function.comp, hx]
      generalize vs[k]'(by omega) = vk at hv
      cases hv
      simp
    · rw [List.getElem?_eq_none (by omega), List.getElem?_eq_none (by simp [octets]; omega)]
theorem conv_sound (hT : TabOk P tab) {src dst : TypeId} {x r : AV} {q : Prop} (h : aConv tab src dst x = some (q, r)) (hq : q) {v : Value} (hv : RV O w μ x v) : ∃ u, (convert src dst v).run P w = .ok u w ∧ RV O w μ r u := by
  unfold aConv at h
  split at h
  · rename_i si di hs hd
    have hsu := (hT _ _ hs).und
    obtain ⟨ds, hds, _⟩ := (hT _ _ hs).row
    have hdu := (hT _ _ hd).und
    split at h
    · rename_i k kk z hk
      injection h with h; injection h with h1 h2; subst h1 h2
      rw [hk] at hdu
      cases hv
      refine ⟨_, ?_, .lit _⟩
      simp only [UndOk] at hdu
      simp only [convert, Sem.run_bind, run_underlying hds, run_underlying hdu, Result.andThen_ok]
      cases ds <;> simp [Conv.intToInt]
    · rename_i s hk
      injection h with h; injection h with h1 h2; subst h1 h2
      rw [hk] at hdu
      cases hv
      refine ⟨_, ?_, .lit _⟩
      simp only [UndOk] at hdu
      simp only [convert, Sem.run_bind, run_underlying hds, run_underlying hdu, Result.andThen_ok]
      cases ds <;> simp
    · rename_i n tt f hk
      split at h
      · rename_i e hse
        split at h
        · rename_i ei he
          split at h
          · rename_i hek
            injection h with h; injection h with h1 h2; subst h1 h2
            rw [hk] at hdu
            rw [hse] at hsu
            have heu := (hT _ _ he).und
            rw [hek] at heu
            exact ⟨_, run_conv hsu heu hdu (octets_sl hq hv), .lit _⟩
          · cases h
        · cases h
      · cases h
    · rename_i hk
      split at h
      · rename_i e hse
        split at h
        · rename_i ei he
          split at h
          · rename_i hek
            injection h with h; injection h with h1 h2; subst h1 h2
            rw [hk] at hdu
            rw [hse] at hsu
            have heu := (hT _ _ he).und
            rw [hek] at heu
            cases hv
            exact ⟨_, run_conv hsu heu hdu (Sl.nil_ kU8 w (fun _ => False)), .lit _⟩
          · cases h
        · cases h
      · cases h
    · cases h
  · cases h
def aLen (tab : Tab) (t : TypeId) (x : AV) : Option AV :=
  match tab t with
  | some i => match i.k, x with
    | .slice _, .sl _ n _ _ => some (.lit (.int .i64 n))
    | .slice _, .row _ _ _ n _ => some (.lit (.int .i64 n))
    | .slice _, .lit (.slice none 0 0) => some (.lit (.int .i64 0))
    | .arr n _, _ => some (.lit (.int .i64 n))
    | .str, .lit (.string s) => some (.lit (.int .i64 s.size))
    | _, _ => none
  | none => none
theorem len_sound (hT : TabOk P tab) {t ty : TypeId} {x r : AV} (h : aLen tab t x = some r) {v : Value} (hv : RV O w μ x v) : ∃ u, (Builtin.len_ #[t] ty #[v]).run P w = .ok u w ∧ RV O w μ r u := by
  unfold aLen at h
  split at h
  · rename_i i hi
    have hu := (hT _ _ hi).und
    split at h <;> first | (cases h; done) | (injection h with h; subst h)
    · rename_i e sz n tt f hk
      rw [hk] at hu; simp only [UndOk] at hu
      cases hv
      exact ⟨_, by simp [Builtin.len_, run_underlying hu, goInt], .lit _⟩
    · rename_i e id sz off n cap hk
      rw [hk] at hu; simp only [UndOk] at hu
      cases hv <;> exact ⟨_, by simp [Builtin.len_, run_underlying hu, goInt], .lit _⟩
    · rename_i e hk
      rw [hk] at hu; simp only [UndOk] at hu
      cases hv
      exact ⟨_, by simp [Builtin.len_, run_underlying hu, goInt], .lit _⟩
    · rename_i n e hk
      rw [hk] at hu; simp only [UndOk] at hu
      exact ⟨_, by simp [Builtin.len_, run_underlying hu, goInt], .lit _⟩
    · rename_i s hk
      rw [hk] at hu; simp only [UndOk] at hu
      cases hv
      exact ⟨_, by simp [Builtin.len_, run_underlying hu, goInt], .lit _⟩
  · cases h
end Go.Proofs.YthcoccoanpmhgaaDoor
