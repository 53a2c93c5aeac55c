/- A region that draws its order, where some of its first operations (extracts, moves) may come up behind those that write. -/
import Derived.Test.YthcoccoanpmhgaaDoorADraw4
namespace Go.Proofs.YthcoccoanpmhgaaDoor
open Go.RowKit
set_option linter.unusedVariables false
set_option linter.unusedSimpArgs false
set_option linter.unusedSectionVars false
variable {P : Program} {tab : Tab} {r : Option Nat} {Q : Exit → St → Prop}
/-- It looks at slots alone. -/
def lateOp : Op → Bool
  | .extract _ _ => true
  | .move _ => true
  | .assign _ => true
  | _ => false
theorem late_run {ρ : Operand → Value} {o : Oper} (h : lateOp o.op = true) {w : World} {R : Value → World → Prop} (hs : StepOk P (execOp ρ o) w R) : ∃ v, (∀ w', (execOp ρ o).run P w' = .ok (.value v) w') ∧ R v w := by
  unfold StepOk at hs
  cases ho : o.op <;> rw [ho] at h <;> first | cases h | skip
  · rename_i x
    have e : ∀ w', (execOp ρ o).run P w' = .ok (.value (ρ x)) w' := fun w' => by unfold execOp; rw [ho]; rfl
    rw [e] at hs
    exact ⟨_, e, hs⟩
  · rename_i x
    have e : ∀ w', (execOp ρ o).run P w' = .ok (.value (ρ x)) w' := fun w' => by unfold execOp; rw [ho]; rfl
    rw [e] at hs
    exact ⟨_, e, hs⟩
  · rename_i x k
    have e : ∀ w', (execOp ρ o).run P w' = (do pure (.value (← Instr.extract (ρ x) k)) : Sem Next).run P w' := fun w' => by unfold execOp; rw [ho]
    rw [e] at hs
    have tup : ∃ vs v, ρ x = .tuple vs ∧ vs[k]? = some v := by
      unfold Instr.extract at hs
      cases hx : ρ x <;> rw [hx] at hs <;> first
        | (simp [stuck] at hs; done)
        | (rename_i vs
           cases hv : vs[k]? with
           | none => simp [hv, stuck] at hs
           | some v => exact ⟨vs, v, rfl, hv⟩)
    obtain ⟨vs, v, hx, hv⟩ := tup
    have e2 : ∀ w', (execOp ρ o).run P w' = .ok (.value v) w' := fun w' => by
      rw [e]; unfold Instr.extract; rw [hx]; simp only [hv]; rfl
    rw [← e, e2] at hs
    exact ⟨v, e2, hs⟩
theorem late_about {o : Oper} (h : lateOp o.op = true) (w : World) (ρ : Operand → Value) : o.about P w ρ = none := by
  unfold Oper.about
  cases ho : o.op <;> rw [ho] at h <;> first | cases h | rfl
def lateB (l : List Oper) (m j : Nat) : Bool :=
  Nat.blt j m && match nth l j with
    | some o => o.guard.isNone && lateOp o.op && (List.range l.length).all fun k => k == j || match nth l k with
      | some ok => ok.after.toList.any (fun e => Region.binds .any e && e.on == j) || anc l.toArray j k || o.apart l.toArray ok
      | none => false
    | none => false
theorem lateB_spec {l : List Oper} {m j : Nat} (h : lateB l m j = true) : j < m ∧ ∃ o, l[j]? = some o ∧ o.guard = none ∧ lateOp o.op = true ∧
    ∀ (k : Nat) ok, l[k]? = some ok → k ≠ j → (∃ e ∈ ok.after, Region.binds .any e = true ∧ e.on = j) ∨ anc l.toArray j k = true ∨ o.apart l.toArray ok = true := by
  unfold lateB at h
  rw [Bool.and_eq_true, Nat.blt_eq] at h
  refine ⟨h.1, ?_⟩
  have h2 := h.2
  rw [nth_eq] at h2
  cases ho : l[j]? with
  | none => rw [ho] at h2; cases h2
  | some o =>
    rw [ho] at h2
    simp only [Bool.and_eq_true] at h2
    refine ⟨o, rfl, by simpa using h2.1.1, h2.1.2, fun k ok hk hne => ?_⟩
    have hlt := (List.getElem?_eq_some_iff.1 hk).1
    have := List.all_eq_true.1 h2.2 k (List.mem_range.2 hlt)
    rw [nth_eq, hk] at this
    simp only [Bool.or_eq_true, beq_iff_eq] at this
    rcases this with h | (h | h) | h
    · exact absurd h hne
    · obtain ⟨e, he, hb⟩ := List.any_eq_true.1 h
      simp only [Bool.and_eq_true, beq_iff_eq] at hb
      exact .inl ⟨e, by simpa using he, hb.1, hb.2⟩
    · exact .inr (.inl h)
    · exact .inr (.inr h)
structure OkL (l : List Oper) (m : Nat) : Prop where
  tail : ∀ i j, m ≤ i → i < l.length → j < i → anc l.toArray i j = true ∨ lateB l m j = true
def okS0b (ops : Array Oper) (m : Nat) : Bool := okS ops ops.size && decide (m ≤ ops.size)
theorem okS0b_spec {ops : Array Oper} {m : Nat} (h : okS0b ops m = true) : OkS0 ops m := by
  unfold okS0b at h
  rw [Bool.and_eq_true, decide_eq_true_eq] at h
  have := okS_spec h.1
  exact ⟨this.lt, this.free, this.sel, h.2⟩
def okDL (l : List Oper) (m : Nat) : Bool := okS0b l.toArray m && okP l m && (List.range l.length).all fun i => Nat.blt i m || (List.range i).all fun j => anc l.toArray i j || lateB l m j
theorem okDL_spec {l : List Oper} {m : Nat} (h : okDL l m = true) : OkD l m ∧ OkL l m := by
  unfold okDL at h
  simp only [Bool.and_eq_true] at h
  refine ⟨okD_of (okS0b_spec h.1.1) h.1.2, ⟨fun i j hi hl hj => ?_⟩⟩
  have := List.all_eq_true.1 h.2 i (List.mem_range.2 hl)
  rw [Bool.or_eq_true, Nat.blt_eq] at this
  rcases this with h | h
  · omega
  · have := List.all_eq_true.1 h j (List.mem_range.2 hj)
    rwa [Bool.or_eq_true] at this
theorem draw_anyL {l : List Oper} {m : Nat} {D : List (Oper × DR)} {σ : St} {B : Base P} (hL : OkL l m) (hq : ∀ c σ, Q (.panic c) σ → False) (h : DOk l m D) (hnd : l.all nDefer = true) (hc : ∀ k, k < m → CStep P l σ D k)
    (ht : AL P none l Q (l.drop m) (σS σ D fun _ => true)) : ∀ (fuel : Nat) (listed : Array Bool) (a : Act) (w : World) (μ : Mu), listed.size = l.length → (∀ i, listed.getD i false = true → ∀ j, anc l.toArray i j = true → listed.getD j false = true) → (∀ j, m ≤ j → listed.getD j false = false) →
    ((List.range m).filter fun j => !listed.getD j true).length + (l.length - m) ≤ fuel → SRel B μ (σS σ D fun j => listed.getD j false) a w → Un μ σ.H.length D (fun j => listed.getD j false) →
    wpAnyIn (fw none) 0 P .any l.toArray (Post B Q) fuel listed a w := by
  have hml : m ≤ l.length := by have := h.ok.s.le; simpa using this
  have done : ∀ {fuel : Nat} {listed : Array Bool} {a : Act} {w : World} {μ : Mu}, listed.size = l.length → (∀ j, m ≤ j → listed.getD j false = false) → ((List.range m).filter fun j => !listed.getD j true) = [] → l.length - m ≤ fuel → SRel B μ (σS σ D fun j => listed.getD j false) a w →
      wpAnyIn (fw none) 0 P .any l.toArray (Post B Q) fuel listed a w := by
    intro fuel listed a w μ hs htl hR hf hr
    have hall : ∀ j, j < m → listed.getD j false = true := fun j hj => by
      have := List.filter_eq_nil_iff.1 hR j (List.mem_range.2 hj)
      rw [← getD_true_false (by omega)]; simpa using this
    have hsame : (σS σ D fun j => listed.getD j false) = σS σ D fun _ => true := by
      have key : ∀ (D' : List (Oper × DR)) (k : Nat), k + D'.length = m → (∀ s, slotsS (fun j => listed.getD j false) k D' s = slotsS (fun _ => true) k D' s) ∧ newsS (fun j => listed.getD j false) k D' = newsS (fun _ => true) k D' := by
        intro D'
        induction D' with
        | nil => intro k _; exact ⟨fun s => rfl, rfl⟩
        | cons p D' ih =>
          intro k hk
          simp only [List.length_cons] at hk
          obtain ⟨i1, i2⟩ := ih (k + 1) (by omega)
          exact ⟨fun s => by simp only [slotsS]; rw [i1, hall k (by omega)], by simp only [newsS]; rw [i2, hall k (by omega)]⟩
      obtain ⟨k1, k2⟩ := key D 0 (by rw [h.len]; omega)
      unfold σS
      rw [k1, k2]
    rw [hsame] at hr
    refine any_of_tailIn h.ok.s (fun i j hj hi hlt => (hL.tail i j (by omega) (by simpa using hi) hlt).elim id fun hb => by have := (lateB_spec hb).1; omega) fuel m listed a w (by simpa using hs) (fun j => ?_) (Nat.le_refl _) (by simpa using hml) (by simpa using hf) (by simpa using ht B μ a w hr)
    by_cases hj : j < m
    · rw [hall j hj]; simp [hj]
    · rw [htl j (by omega)]; simp [hj]
  intro fuel
  induction fuel with
  | zero =>
    intro listed a w μ hs hcl htl hf hr hun
    exact done hs htl (List.eq_nil_of_length_eq_zero (by omega)) (by omega) hr
  | succ fuel ih =>
    intro listed a w μ hs hcl htl hf hr hun
    by_cases hR : (List.range m).filter (fun j => !listed.getD j true) = []
    · rw [hR] at hf
      exact done hs htl hR (by simp at hf; omega) hr
    have hmem : ∀ j, j ∈ (List.range m).filter (fun j => !listed.getD j true) ↔ j < m ∧ listed.getD j true = false := fun j => by simp
    have hpw : ((List.range m).filter fun j => !listed.getD j true).Pairwise (· < ·) := List.Pairwise.filter _ List.pairwise_lt_range
    have hanc : ∀ i, i ∈ Region.ready .any l.toArray listed → ∀ j, anc l.toArray i j = true → listed.getD j false = true := by
      intro i hi j hj
      obtain ⟨_, o, ho, ha⟩ := mem_ready.1 hi
      obtain ⟨e, he, hb, hh⟩ := (anc_iff ho (h.ok.s.lt i o ho) j).1 hj
      rcases hh with rfl | hh
      · exact ha e he hb
      · exact hcl _ (ha e he hb) j hh
    obtain ⟨i0, R0, hRe0⟩ : ∃ i R', (List.range m).filter (fun j => !listed.getD j true) = i :: R' := by
      cases hc' : (List.range m).filter (fun j => !listed.getD j true) with
      | nil => exact absurd hc' hR
      | cons i R' => exact ⟨i, R', rfl⟩
    have him0 := (hmem i0).1 (by rw [hRe0]; simp)
    have hlow0 : ∀ j, j < i0 → listed.getD j false = true := by
      intro j hj
      rw [← getD_true_false (by omega)]
      cases hc' : listed.getD j true with
      | true => rfl
      | false =>
        have : j ∈ i0 :: R0 := by rw [← hRe0]; exact (hmem j).2 ⟨by omega, hc'⟩
        rw [hRe0, List.pairwise_cons] at hpw
        rcases List.mem_cons.1 this with h1 | h1
        · omega
        · have := hpw.1 j h1; omega
    have hil0 : i0 < l.toArray.size := by simp; omega
    have hrd0 : i0 ∈ Region.ready .any l.toArray listed := by
      rw [mem_ready]
      exact ⟨him0.2, l.toArray[i0], Array.getElem?_eq_getElem hil0, fun e he hb => hlow0 _ (h.ok.s.lt i0 _ (Array.getElem?_eq_getElem hil0) e he hb)⟩
    by_cases hlate : lateB l m i0 = true
    · obtain ⟨_, o, hoo, hgd, hlo, hap⟩ := lateB_spec hlate
      have hDi : i0 < D.length := by rw [h.len]; exact him0.1
      have hp : D[i0]? = some D[i0] := List.getElem?_eq_getElem hDi
      have hoe : o = D[i0].1 := by
        have := h.op i0 _ hp
        rw [hoo] at this; injection this
      have hS : listed.getD i0 false = false := by rw [← getD_true_false (by omega)]; exact him0.2
      have hw1 : ∀ S, wantA l (σS σ D S) D[i0].1 = some true := fun S => by unfold wantA; rw [← hoe, hgd]
      rcases hc i0 him0.1 _ hp with ⟨_, hd⟩ | ⟨hw2, _⟩
      · have hstep := hd w B.X μ (σS σ D fun j => listed.getD j false).H a.eval hr.H (fun i ob hi => H_old i ob hi) (fun y hy => by rw [← ev_same h hp hS (hanc i0 hrd0) y hy]; exact hr.ev y)
        rw [← hoe] at hstep
        obtain ⟨v, hv, hb, hres⟩ := late_run hlo hstep
        have hN : D[i0].2.N = none := by
          cases hN : D[i0].2.N with
          | none => rfl
          | some ob =>
            rw [hN] at hres
            obtain ⟨b, mb, cur, e1, e2, _⟩ := hres
            omega
        rw [hN] at hres
        have hset : (fun j => (listed.setIfInBounds i0 true).getD j false) = add (fun j => listed.getD j false) i0 := by
          funext j
          by_cases hj : i0 = j
          · subst hj
            rw [add_eq, Array.getD_eq_getD_getElem?, Array.getElem?_setIfInBounds_self, if_pos (by omega)]; rfl
          · rw [getD_set_ne _ hj, add_ne (Ne.symm hj)]
        have hy : YieldsFenced P l.toArray o v a := ⟨.inl ⟨by unfold Region.wanted; rw [hgd], hv⟩, fun w => late_about hlo w _⟩
        refine wpAnyIn_first (oi := o) (v := v) rfl (by simpa using hoo) (fun j o' cs b hj => h.ok.s.sel j o' hj cs b) (fun c a' w' ⟨σ', h1, _⟩ => (hq c σ' h1).elim) fuel listed a w (fun j oj hj hne hls hno => ?_) hrd0 hy ?_
        · have := hap j oj (by simpa using hj) hne
          rcases this with ⟨e, he, hb, hon⟩ | han | hap
          · exact (hno e he hb hon).elim
          · have h1 := hanc i0 hrd0 j han
            have hjl : j < l.toArray.size := (Array.getElem?_eq_some_iff.1 hj).1
            rw [← getD_true_false (by simp at hjl; omega), hls] at h1; cases h1
          · exact hap
        · have hsr := step_plain h hp hS hN hr hb (by rw [hN] at *; exact hres)
          rw [← hoe] at hsr
          refine ih _ _ w μ (by simpa using hs) ?_ ?_ ?_ (by rw [hset]; exact hsr) (by
            rw [hset]
            intro k p ob hk hN' hs'
            refine hun k p ob hk hN' ?_
            have : k ≠ i0 := by rintro rfl; rw [add_eq] at hs'; cases hs'
            rw [add_ne this] at hs'; exact hs')
          · intro k hk1 j hj
            by_cases hkj : i0 = j
            · subst hkj
              rw [Array.getD_eq_getD_getElem?, Array.getElem?_setIfInBounds_self, if_pos (by omega)]; rfl
            · rw [getD_set_ne _ hkj]
              by_cases hki : i0 = k
              · subst hki; exact hanc i0 hrd0 j hj
              · rw [getD_set_ne _ hki] at hk1; exact hcl k hk1 j hj
          · intro j hj
            rw [getD_set_ne _ (by omega)]
            exact htl j hj
          · obtain ⟨R1, R2, hsp⟩ := List.append_of_mem ((hmem i0).2 ⟨him0.1, him0.2⟩)
            have hfil : (List.range m).filter (fun j => !(listed.setIfInBounds i0 true).getD j true) = R1 ++ R2 := by
              rw [← filter_pull hsp]
              congr 1
              funext j
              by_cases hj : i0 = j
              · subst hj
                rw [Array.getD_eq_getD_getElem?, Array.getElem?_setIfInBounds_self, if_pos (by omega)]; simp
              · rw [getD_set_ne _ hj]
                have : (j != i0) = true := by simp; omega
                rw [this, Bool.true_and]
            rw [hfil]
            have : ((List.range m).filter fun j => !listed.getD j true).length = (R1 ++ R2).length + 1 := by rw [hsp]; simp; omega
            omega
      · rw [hw1] at hw2; cases hw2
    refine ⟨fun hrd => ?_, fun i hi => ?_⟩
    · exfalso
      obtain ⟨i, R', hRe⟩ : ∃ i R', (List.range m).filter (fun j => !listed.getD j true) = i :: R' := by
        cases hc' : (List.range m).filter (fun j => !listed.getD j true) with
        | nil => exact absurd hc' hR
        | cons i R' => exact ⟨i, R', rfl⟩
      have him := (hmem i).1 (by rw [hRe]; simp)
      have hlow : ∀ j, j < i → listed.getD j false = true := by
        intro j hj
        rw [← getD_true_false (by omega)]
        cases hc' : listed.getD j true with
        | true => rfl
        | false =>
          have : j ∈ i :: R' := by rw [← hRe]; exact (hmem j).2 ⟨by omega, hc'⟩
          rw [hRe, List.pairwise_cons] at hpw
          rcases List.mem_cons.1 this with h1 | h1
          · omega
          · have := hpw.1 j h1; omega
      have hil : i < l.toArray.size := by simp; omega
      have : i ∈ Region.ready .any l.toArray listed := by
        rw [mem_ready]
        exact ⟨him.2, l.toArray[i], Array.getElem?_eq_getElem hil, fun e he hb => hlow _ (h.ok.s.lt i _ (Array.getElem?_eq_getElem hil) e he hb)⟩
      rw [hrd] at this
      cases this
    · obtain ⟨h0, o, ho, _⟩ := mem_ready.1 hi
      have hlt := (Array.getElem?_eq_some_iff.1 ho).1
      have him : i < m := by
        rcases Nat.lt_or_ge i m with h1 | h1
        · exact h1
        · exfalso
          have := hanc i hi i0 ((hL.tail i i0 h1 (by simpa using hlt) (by omega)).resolve_right hlate)
          rw [← getD_true_false (by omega), him0.2] at this
          cases this
      have hS : listed.getD i false = false := by rw [← getD_true_false (by omega)]; exact h0
      have hDi : i < D.length := by rw [h.len]; exact him
      have hp : D[i]? = some D[i] := List.getElem?_eq_getElem hDi
      have hop := h.op i _ hp
      have hoe : o = D[i].1 := by
        simp only [List.getElem?_toArray] at ho
        rw [hop] at ho; injection ho with ho; exact ho.symm
      have hset : (fun j => (listed.setIfInBounds i true).getD j false) = add (fun j => listed.getD j false) i := by
        funext j
        by_cases hj : i = j
        · subst hj
          rw [add_eq, Array.getD_eq_getD_getElem?, Array.getElem?_setIfInBounds_self, if_pos (by omega)]; rfl
        · rw [getD_set_ne _ hj, add_ne (Ne.symm hj)]
      have hnext : ∀ (a' : Act) (w' : World) (μ' : Mu), SRel B μ' (σS σ D (add (fun j => listed.getD j false) i)) a' w' → Un μ' σ.H.length D (add (fun j => listed.getD j false) i) →
          wpAnyIn (fw none) 0 P .any l.toArray (Post B Q) fuel (listed.setIfInBounds i true) a' w' := by
        intro a' w' μ' hr' hun'
        refine ih _ a' w' μ' (by simpa using hs) ?_ ?_ ?_ (by rw [hset]; exact hr') (by rw [hset]; exact hun')
        · intro k hk1 j hj
          by_cases hkj : i = j
          · subst hkj
            rw [Array.getD_eq_getD_getElem?, Array.getElem?_setIfInBounds_self, if_pos (by omega)]; rfl
          · rw [getD_set_ne _ hkj]
            by_cases hki : i = k
            · subst hki; exact hanc i hi j hj
            · rw [getD_set_ne _ hki] at hk1; exact hcl k hk1 j hj
        · intro j hj
          rw [getD_set_ne _ (by omega)]
          exact htl j hj
        · obtain ⟨R1, R2, hsp⟩ := List.append_of_mem ((hmem i).2 ⟨him, h0⟩)
          have hfil : (List.range m).filter (fun j => !(listed.setIfInBounds i true).getD j true) = R1 ++ R2 := by
            rw [← filter_pull hsp]
            congr 1
            funext j
            by_cases hj : i = j
            · subst hj
              rw [Array.getD_eq_getD_getElem?, Array.getElem?_setIfInBounds_self, if_pos (by omega)]; simp
            · rw [getD_set_ne _ hj]
              have : (j != i) = true := by simp; omega
              rw [this, Bool.true_and]
          rw [hfil]
          have : ((List.range m).filter fun j => !listed.getD j true).length = (R1 ++ R2).length + 1 := by rw [hsp]; simp; omega
          omega
      unfold wpOpIn
      rw [ho]
      simp only
      have hw := want_same (σ := σ) h hp hS (hanc i hi)
      rcases hc i him _ hp with ⟨hw1, hd⟩ | ⟨hw1, hd⟩
      · rw [hw1] at hw
        rw [hoe, if_pos (wantA_ok hw hr)]
        have hnd' : ∀ c, D[i].1.op ≠ .defer c := fun c hc' => by
          have := List.all_eq_true.1 hnd D[i].1 (List.mem_of_getElem? hop)
          unfold nDefer at this
          rw [hc'] at this; cases this
        have hstep := hd w B.X μ (σS σ D fun j => listed.getD j false).H a.eval hr.H (fun i ob hi => H_old i ob hi) (fun y hy => by rw [← ev_same h hp hS (hanc i hi) y hy]; exact hr.ev y)
        refine stepOk_wpIn hnd' hstep fun u w' ⟨hb, hres⟩ => ?_
        cases hN : D[i].2.N with
        | none =>
          rw [hN] at hres
          refine hnext _ _ μ (step_plain h hp hS hN hr hb hres) fun k p ob hk hN' hs' => ?_
          refine hun k p ob hk hN' ?_
          have : k ≠ i := by rintro rfl; rw [add_eq] at hs'; cases hs'
          rw [add_ne this] at hs'; exact hs'
        | some ob =>
          rw [hN] at hres
          obtain ⟨b, mb, cur, e1, e2, e3, e4, e5, e6⟩ := hres
          obtain ⟨μ', g1, g2⟩ := step_new h hp hS hN hr hun hb e1 e2 e3 e4 e5 e6
          exact hnext _ _ μ' g1 g2
      · rw [hw1] at hw
        rw [hoe, if_neg (by rw [wantA_ok hw hr]; simp)]
        refine ⟨fun f _ => fw_fn none f, ?_⟩
        have hN : D[i].2.N = none := by rw [hd]
        refine hnext _ _ μ (step_plain h hp hS hN hr (Below.refl _ _) (by rw [hd]; exact .lit _)) fun k p ob hk hN' hs' => ?_
        refine hun k p ob hk hN' ?_
        have : k ≠ i := by rintro rfl; rw [add_eq] at hs'; cases hs'
        rw [add_ne this] at hs'; exact hs'
theorem aw_drawL (hq : ∀ c σ, Q (.panic c) σ → False) (hm : P.follows .mixedOrders = true) {id : Nat} {l : List Oper} {σ : St} (m : Nat) (hok : okDL l m = true) (hnd : l.all nDefer = true)
    (h : AD P l σ (fun D => AL P none l Q (l.drop m) (σS σ D fun _ => true)) (l.take m) []) : AW P none (.region id l.toArray true) Q σ := by
  obtain ⟨ok, hL⟩ := okDL_spec hok
  have hml : m ≤ l.length := by have := ok.s.le; simpa using this
  -- the results, one after the other
  have key : ∀ (R : List Oper) (D0 : List (Oper × DR)), D0.length + R.length = m → (∀ (k : Nat) p, D0[k]? = some p → l[k]? = some p.1) → (∀ (j : Nat) o, R[j]? = some o → l[D0.length + j]? = some o) → AD P l σ (fun D => AL P none l Q (l.drop m) (σS σ D fun _ => true)) R D0 →
      ∃ E, (D0 ++ E).length = m ∧ (∀ (k : Nat) p, (D0 ++ E)[k]? = some p → l[k]? = some p.1) ∧ AL P none l Q (l.drop m) (σS σ (D0 ++ E) fun _ => true) ∧ ∀ k, D0.length ≤ k → k < m → CStep P l σ (D0 ++ E) k := by
    intro R
    induction R with
    | nil =>
      intro D0 hl h0 hR h
      exact ⟨[], by simpa using hl, by simpa using h0, by simpa [AD] using h, fun k hk hk' => by simp at hl; omega⟩
    | cons o R ih =>
      intro D0 hl h0 hR h
      simp only [AD] at h
      obtain ⟨d, hd, hrest⟩ := h
      obtain ⟨E, e1, e2, e3, e4⟩ := ih (D0 ++ [(o, d)]) (by simp at hl ⊢; omega) (fun k p hk => by
        by_cases hlt : k < D0.length
        · rw [List.getElem?_append_left hlt] at hk; exact h0 k p hk
        · rw [List.getElem?_append_right (by omega)] at hk
          have : k - D0.length = 0 := by have := (List.getElem?_eq_some_iff.1 hk).1; simp at this; omega
          rw [this] at hk
          simp at hk; subst hk
          have := hR 0 o rfl
          rw [show k = D0.length + 0 by omega]; exact this) (fun j o' hj => by
        have := hR (j + 1) o' (by simpa using hj)
        rw [← this]; congr 1; simp; omega) hrest
      refine ⟨(o, d) :: E, by simpa using e1, by simpa using e2, by simpa using e3, fun k hk hk' => ?_⟩
      rcases Nat.eq_or_lt_of_le hk with he | hlt
      · subst he
        intro p hp
        have hpe : p = (o, d) := by simpa using hp.symm
        subst hpe
        have hpre := slotsS_pre (txt D0.length) 0 D0 ((o, d) :: E) σ.s (fun j hj => by unfold txt; rw [Nat.blt_eq]; omega) (fun j hj => by
          unfold txt
          cases hb : Nat.blt (0 + j) D0.length with
          | false => rfl
          | true => rw [Nat.blt_eq] at hb; omega)
        have hslots : (σS σ (D0 ++ (o, d) :: E) (txt D0.length)).s = (σS σ D0 fun _ => true).s := hpre.1
        have hev : (σS σ (D0 ++ (o, d) :: E) (txt D0.length)).ev = (σS σ D0 fun _ => true).ev := by
          funext y
          cases y <;> simp only [St.ev, hslots]
        have hwant : wantA l (σS σ (D0 ++ (o, d) :: E) (txt D0.length)) o = wantA l (σS σ D0 fun _ => true) o := by
          unfold wantA; rw [hslots]
        have hidd : idD σ.H.length (D0 ++ (o, d) :: E) D0.length = σ.H.length + nNews D0 := by simp [idD]
        simp only
        rw [hwant, hev, hidd]
        exact hd
      · have := e4 k (by simp; omega) hk'
        simpa using this
  obtain ⟨E, e1, e2, e3, e4⟩ := key (l.take m) [] (by simp; omega) (fun k p hk => by simp at hk) (fun j o hj => by
    rw [List.getElem?_take] at hj
    split at hj
    · simpa using hj
    · cases hj) h
  simp only [List.nil_append] at e1 e2 e3 e4
  have hD : DOk l m E := ⟨ok, e1, e2⟩
  intro B μ a w hr
  refine wpIn_region_any hm ?_
  have hno : ∀ j, (Array.replicate l.toArray.size false).getD j false = false := fun j => by
    simp only [Array.getD_eq_getD_getElem?, Array.getElem?_replicate]
    split <;> rfl
  have hS0 : (fun j => (Array.replicate l.toArray.size false).getD j false) = fun _ => false := by funext j; exact hno j
  -- at the start nothing is made: the numbers are set aside
  have hslots0 : ∀ (D : List (Oper × DR)) (k : Nat) (s : List AV), slotsS (fun _ => false) k D s = s := by
    intro D
    induction D with
    | nil => intro k s; rfl
    | cons p D ih => intro k s; simp only [slotsS]; exact ih (k + 1) s
  have hun0 : Un μ σ.H.length E (fun _ => false) := fun k p ob hk hN _ => by
    cases hm : μ (idD σ.H.length E k) with
    | none => rfl
    | some l => have := hr.H.dom _ l hm; unfold idD at this; omega
  have hdead : ∀ (i : Nat) o, (newsS (fun _ => false) 0 E)[i]? = some o → o.st = 2 := fun i o hi => by
    obtain ⟨j, p, ob, _, _, _, h4⟩ := newsS_all _ 0 E i o hi
    rw [h4]
  have hr0 : SRel B μ (σS σ E fun _ => false) a w.drew := by
    have hoo : ∀ b, OO B.X (σ.H ++ newsS (fun _ => false) 0 E) μ b → OO B.X σ.H μ b := by
      rintro b (hx | ⟨i, o, m', hi, hs, hm'⟩)
      · exact .inl hx
      · by_cases hlt : i < σ.H.length
        · rw [List.getElem?_append_left hlt] at hi; exact .inr ⟨i, o, m', hi, hs, hm'⟩
        · rw [List.getElem?_append_right (by omega)] at hi
          have := hdead _ o hi; omega
    have up : ∀ {ν : Mu} {x : AV} {v : Value}, RV (OO B.X σ.H μ) w ν x v → RV (OO B.X (σ.H ++ newsS (fun _ => false) 0 E) μ) w.drew ν x v := fun {ν x v} hx => RV.mono (w := w) (w' := w.drew) (fun b _ hb => hoo b hb) (fun _ _ _ => rfl) hx ν fun _ _ h => h
    refine ⟨by simp only [σS, hslots0]; exact hr.size, fun t x v hx hv => ?_, ⟨fun i l hi => by simp only [σS, List.length_append]; have := hr.H.dom i l hi; omega, hr.H.inj, hr.H.lt, fun i o hi hs => ?_, hr.H.xlt, hr.H.gl.step (Nat.le_refl _) (fun _ _ _ _ => rfl) (fun _ h => .inl h) fun i b m h => .inl ⟨i, m, h⟩⟩, hr.df.step (Chg.drew _ _) (Ext.refl _ _) hr.H.lt, hr.chg.trans hr.ext (Chg.drew _ _), hr.ext, hr.nb, by simp only [σS, List.length_append]; have := hr.le; omega, fun k x v hk hx => up (hr.pres k x v hk hx)⟩
    · simp only [σS, hslots0] at hx
      exact up (hr.slot t x v hx hv)
    · simp only [σS] at hi
      by_cases hlt : i < σ.H.length
      · rw [List.getElem?_append_left hlt] at hi
        exact ObjAt.mono (w := w) (w' := w.drew) (fun b _ hb => hoo b hb) (fun _ _ _ => rfl) (fun _ _ h => h) (fun _ _ _ => rfl) (hr.H.obj i o hi hs)
      · rw [List.getElem?_append_right (by omega)] at hi
        have := hdead _ o hi; omega
  refine draw_anyL hL hq hD hnd (fun k hk => e4 k (by simp) hk) e3 l.toArray.size _ a w.drew μ (by simp) (fun i hi => by rw [hno] at hi; cases hi) (fun j _ => hno j) ?_ (by rw [hS0]; exact hr0) (by rw [hS0]; exact hun0)
  have hfil : (List.range m).filter (fun j => !(Array.replicate l.toArray.size false).getD j true) = List.range m := by
    rw [List.filter_eq_self]
    intro j hj
    have := List.mem_range.1 hj
    simp [Array.getD_eq_getD_getElem?, Array.getElem?_replicate, show j < l.length by omega]
  rw [hfil, List.length_range]
  simp; omega
theorem aw_drawrL (hq : ∀ c σ, Q (.panic c) σ → False) (hm : P.follows .mixedOrders = true) {id : Nat} {l : List Oper} {σ : St} (m : Nat) (hok : okDL l m = true) (hnd : l.all nDefer = true) (h : ADr P none l Q m σ (l.take m) σ) : AW P none (.region id l.toArray true) Q σ :=
  aw_drawL hq hm m hok hnd (h [] (by simp [σS, slotsS, newsS]))
/-! no way out by a panic -/
class NoPanic (Q : Exit → St → Prop) : Prop where
  no : ∀ c σ, Q (.panic c) σ → False
instance noPanic_ret {tab : Tab} {rs : List ResultVar} {K : AV → List AObj → List Nat → Prop} : NoPanic (RetP tab rs K) := ⟨fun _ _ h => h⟩
instance noPanic_then {n : St → Prop} {Q : Exit → St → Prop} [h : NoPanic Q] : NoPanic (Then n Q) := ⟨fun c σ hq => h.no c σ hq⟩
instance noPanic_block {id : Nat} {Q : Exit → St → Prop} [h : NoPanic Q] : NoPanic (InBlock id Q) := ⟨fun c σ hq => h.no c σ hq⟩
end Go.Proofs.YthcoccoanpmhgaaDoor
