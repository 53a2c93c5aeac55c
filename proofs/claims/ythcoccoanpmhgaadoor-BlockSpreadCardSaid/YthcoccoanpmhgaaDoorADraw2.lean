/- A region that draws its order: the rule. -/
import Derived.Test.YthcoccoanpmhgaaDoorADraw
namespace Go.Proofs.YthcoccoanpmhgaaDoor
open Go.RowKit
set_option linter.unusedVariables false
set_option linter.unusedSimpArgs false
set_option linter.unusedSectionVars false
variable {P : Program} {tab : Tab} {r : Option Nat} {Q : Exit → St → Prop}

section
variable {F : Fence} {n : Nat} {Q : Exit → Act → World → Prop} {ops : Array Oper} {m : Nat}
theorem any_of_tailIn (ok : OkS0 ops m) (tl : ∀ i j, m ≤ j → i < ops.size → j < i → anc ops i j = true) : ∀ (fuel k : Nat) (listed : Array Bool) (a : Act) (w : World), listed.size = ops.size → (∀ j, listed.getD j false = decide (j < k)) → m ≤ k → k ≤ ops.size → ops.size - k ≤ fuel →
    wpListIn F n P ops Q (ops.toList.drop k) a w → wpAnyIn F n P .any ops Q fuel listed a w := by
  intro fuel
  induction fuel with
  | zero =>
    intro k listed a w hs hl hm hk hf h
    have : k = ops.size := by omega
    subst this
    rw [List.drop_eq_nil_of_le (by simp)] at h
    refine ⟨?_, h⟩
    rw [List.eq_nil_iff_forall_not_mem]
    intro i hi
    obtain ⟨h0, o, ho, _⟩ := mem_ready.1 hi
    have hlt := (Array.getElem?_eq_some_iff.1 ho).1
    have := hl i
    rw [Array.getD_eq_getD_getElem?, Array.getElem?_eq_getElem (by omega)] at h0 this
    simp only [Option.getD_some] at h0 this
    rw [h0] at this
    simp [hlt] at this
  | succ fuel ih =>
    intro k listed a w hs hl hm hk hf h
    have hgd : ∀ i, i < ops.size → listed.getD i true = decide (i < k) := fun i hi => by
      have := hl i
      rw [Array.getD_eq_getD_getElem?, Array.getElem?_eq_getElem (by omega)] at this ⊢
      exact this
    have only : ∀ i, i ∈ Region.ready .any ops listed → i = k := by
      intro i hi
      obtain ⟨h0, o, ho, ha⟩ := mem_ready.1 hi
      have hlt := (Array.getElem?_eq_some_iff.1 ho).1
      rw [hgd i hlt] at h0
      have h0 : k ≤ i := by simpa using h0
      rcases Nat.lt_or_ge k i with h1 | h1
      · exfalso
        obtain ⟨e, he, hb, hh⟩ := (anc_iff ho (ok.lt i o ho) k).1 (tl i k hm hlt h1)
        have h2 := ha e he hb
        rw [hl] at h2
        have h2 : e.on < k := by simpa using h2
        rcases hh with hh | hh
        · omega
        · cases hoe : ops[e.on]? with
          | none => have := ok.lt i o ho e he hb; simp at hoe; omega
          | some oe =>
            cases hok : ops[k]? with
            | none => simp at hok; omega
            | some okk =>
              rw [(ok.free k e.on okk oe hok hoe h2).1] at hh
              cases hh
      · omega
    refine ⟨fun hr => ?_, fun i hi => ?_⟩
    · have : k = ops.size := by
        rcases Nat.lt_or_ge k ops.size with h1 | h1
        · exfalso
          have : k ∈ Region.ready .any ops listed := by
            rw [mem_ready]
            refine ⟨by rw [hgd k h1]; simp, ops[k], Array.getElem?_eq_getElem h1, fun e he hb => ?_⟩
            rw [hl]
            simpa using ok.lt k _ (Array.getElem?_eq_getElem h1) e he hb
          rw [hr] at this
          cases this
        · omega
      subst this
      rw [List.drop_eq_nil_of_le (by simp)] at h
      exact h
    · obtain rfl := only i hi
      obtain ⟨_, o, ho, _⟩ := mem_ready.1 hi
      have hlt := (Array.getElem?_eq_some_iff.1 ho).1
      have hd : ops.toList.drop i = o :: ops.toList.drop (i + 1) := by
        rw [List.drop_eq_getElem_cons (by simpa using hlt)]
        congr 1
        have := (Array.getElem?_eq_some_iff.1 ho).2
        simpa using this
      rw [hd] at h
      have h2 : wpOpIn F n P ops Q i (wpListIn F n P ops Q (ops.toList.drop (i + 1))) a w := by
        unfold wpOpIn
        rw [ho]
        unfold wpListIn at h
        exact h
      refine wpOpIn_mono (fun a' w' h' => ih (i + 1) _ a' w' (by simpa using hs) (fun j => ?_) (by omega) (by omega) (by omega) h') h2
      by_cases hj : i = j
      · subst hj
        rw [Array.getD_eq_getD_getElem?, Array.getElem?_setIfInBounds_self]
        rw [if_pos (by omega)]; simp
      · rw [getD_set_ne _ hj, hl]
        simp only [decide_eq_decide]
        omega
end
theorem stepOk_wpIn {o : Oper} {a : Act} {w : World} {R : Value → World → Prop} {K : Act → World → Prop} {Q : Exit → Act → World → Prop} (hd : ∀ c, o.op ≠ .defer c)
    (h : StepOk P (execOp a.eval o) w R) (hk : ∀ v w', R v w' → K (a.put o.dst v) w') : o.wpIn (fw r) 0 P a w K Q := by
  refine ⟨fun f _ => fw_fn r f, ?_⟩
  rw [Oper.semAt_eq _ _ _ hd]
  unfold StepOk at h
  generalize (execOp a.eval o).run P w = rr at *
  cases rr with
  | ok n w' =>
    cases n <;> simp only [Oper.uponIn] at h ⊢
    case value v => exact hk _ _ h
    case skip => exact hk _ _ h
    case enter f args => exact ⟨fun hd => by simp [fw, Fence.wide] at hd, (show CallsIn (fw r) (0 - 1) P f args w' _ from callsIn_wide.2 h).mono fun e w'' he => by cases e <;> first | exact hk _ _ he | exact he.elim⟩
    case row row args =>
      refine ⟨fun hd => by simp [fw, Fence.wide] at hd, fun c cs _ => ?_⟩
      obtain ⟨v, w'', h1, h2⟩ := h c cs
      refine ⟨v, w'', hk _ _ h1, ?_⟩
      exact (StepsIn.of_steps h2).mono fun m _ => (fenced_wide P m : Machine.fenced P Fence.wide m)
  | halt x w' => exact h.elim
def nDefer (o : Oper) : Bool := match o.op with | .defer _ => false | _ => true
theorem draw_any {l : List Oper} {m : Nat} {D : List (Oper × DR)} {σ : St} {B : Base P} (hS0 : OkS l.toArray m) (h : DOk l m D) (hnd : l.all nDefer = true) (hc : ∀ k, k < m → CStep P l σ D k)
    (ht : AL P r l Q (l.drop m) (σS σ D fun _ => true)) : ∀ (fuel : Nat) (listed : Array Bool) (a : Act) (w : World) (μ : Mu), listed.size = l.length → (∀ i, listed.getD i false = true → ∀ j, anc l.toArray i j = true → listed.getD j false = true) → (∀ j, m ≤ j → listed.getD j false = false) →
    ((List.range m).filter fun j => !listed.getD j true).length + (l.length - m) ≤ fuel → SRel B μ (σS σ D fun j => listed.getD j false) a w → Un μ σ.H.length D (fun j => listed.getD j false) →
    wpAnyIn (fw r) 0 P .any l.toArray (Post B Q) fuel listed a w := by
  have hml : m ≤ l.length := by have := h.ok.s.le; simpa using this
  have done : ∀ {fuel : Nat} {listed : Array Bool} {a : Act} {w : World} {μ : Mu}, listed.size = l.length → (∀ j, m ≤ j → listed.getD j false = false) → ((List.range m).filter fun j => !listed.getD j true) = [] → l.length - m ≤ fuel → SRel B μ (σS σ D fun j => listed.getD j false) a w →
      wpAnyIn (fw r) 0 P .any l.toArray (Post B Q) fuel listed a w := by
    intro fuel listed a w μ hs htl hR hf hr
    have hall : ∀ j, j < m → listed.getD j false = true := fun j hj => by
      have := List.filter_eq_nil_iff.1 hR j (List.mem_range.2 hj)
      rw [← getD_true_false (by omega)]; simpa using this
    have hsame : (σS σ D fun j => listed.getD j false) = σS σ D fun _ => true := by
      have key : ∀ (D' : List (Oper × DR)) (k : Nat), k + D'.length = m → (∀ s, slotsS (fun j => listed.getD j false) k D' s = slotsS (fun _ => true) k D' s) ∧ newsS (fun j => listed.getD j false) k D' = newsS (fun _ => true) k D' := by
        intro D'
        induction D' with
        | nil => intro k _; exact ⟨fun s => rfl, rfl⟩
        | cons p D' ih =>
          intro k hk
          simp only [List.length_cons] at hk
          obtain ⟨i1, i2⟩ := ih (k + 1) (by omega)
          exact ⟨fun s => by simp only [slotsS]; rw [i1, hall k (by omega)], by simp only [newsS]; rw [i2, hall k (by omega)]⟩
      obtain ⟨k1, k2⟩ := key D 0 (by rw [h.len]; omega)
      unfold σS
      rw [k1, k2]
    rw [hsame] at hr
    refine any_of_tailIn hS0.s0 (fun i j hj hi hlt => hS0.tail i j (by omega) hi hlt) fuel m listed a w (by simpa using hs) (fun j => ?_) (Nat.le_refl _) (by simpa using hml) (by simpa using hf) (by simpa using ht B μ a w hr)
    by_cases hj : j < m
    · rw [hall j hj]; simp [hj]
    · rw [htl j (by omega)]; simp [hj]
  intro fuel
  induction fuel with
  | zero =>
    intro listed a w μ hs hcl htl hf hr hun
    exact done hs htl (List.eq_nil_of_length_eq_zero (by omega)) (by omega) hr
  | succ fuel ih =>
    intro listed a w μ hs hcl htl hf hr hun
    by_cases hR : (List.range m).filter (fun j => !listed.getD j true) = []
    · rw [hR] at hf
      exact done hs htl hR (by simp at hf; omega) hr
    have hmem : ∀ j, j ∈ (List.range m).filter (fun j => !listed.getD j true) ↔ j < m ∧ listed.getD j true = false := fun j => by simp
    have hpw : ((List.range m).filter fun j => !listed.getD j true).Pairwise (· < ·) := List.Pairwise.filter _ List.pairwise_lt_range
    have hanc : ∀ i, i ∈ Region.ready .any l.toArray listed → ∀ j, anc l.toArray i j = true → listed.getD j false = true := by
      intro i hi j hj
      obtain ⟨_, o, ho, ha⟩ := mem_ready.1 hi
      obtain ⟨e, he, hb, hh⟩ := (anc_iff ho (h.ok.s.lt i o ho) j).1 hj
      rcases hh with rfl | hh
      · exact ha e he hb
      · exact hcl _ (ha e he hb) j hh
    refine ⟨fun hrd => ?_, fun i hi => ?_⟩
    · exfalso
      obtain ⟨i, R', hRe⟩ : ∃ i R', (List.range m).filter (fun j => !listed.getD j true) = i :: R' := by
        cases hc' : (List.range m).filter (fun j => !listed.getD j true) with
        | nil => exact absurd hc' hR
        | cons i R' => exact ⟨i, R', rfl⟩
      have him := (hmem i).1 (by rw [hRe]; simp)
      have hlow : ∀ j, j < i → listed.getD j false = true := by
        intro j hj
        rw [← getD_true_false (by omega)]
        cases hc' : listed.getD j true with
        | true => rfl
        | false =>
          have : j ∈ i :: R' := by rw [← hRe]; exact (hmem j).2 ⟨by omega, hc'⟩
          rw [hRe, List.pairwise_cons] at hpw
          rcases List.mem_cons.1 this with h1 | h1
          · omega
          · have := hpw.1 j h1; omega
      have hil : i < l.toArray.size := by simp; omega
      have : i ∈ Region.ready .any l.toArray listed := by
        rw [mem_ready]
        exact ⟨him.2, l.toArray[i], Array.getElem?_eq_getElem hil, fun e he hb => hlow _ (h.ok.s.lt i _ (Array.getElem?_eq_getElem hil) e he hb)⟩
      rw [hrd] at this
      cases this
    · obtain ⟨h0, o, ho, _⟩ := mem_ready.1 hi
      have hlt := (Array.getElem?_eq_some_iff.1 ho).1
      have him : i < m := by
        rcases Nat.lt_or_ge i m with h1 | h1
        · exact h1
        · exfalso
          obtain ⟨q, hq⟩ : ∃ q, q ∈ (List.range m).filter (fun j => !listed.getD j true) := by
            cases hc' : (List.range m).filter (fun j => !listed.getD j true) with
            | nil => exact absurd hc' hR
            | cons q R' => exact ⟨q, by simp⟩
          have hq := (hmem q).1 hq
          have := hanc i hi q (hS0.tail i q h1 hlt (by omega))
          rw [← getD_true_false (by omega), hq.2] at this
          cases this
      have hS : listed.getD i false = false := by rw [← getD_true_false (by omega)]; exact h0
      have hDi : i < D.length := by rw [h.len]; exact him
      have hp : D[i]? = some D[i] := List.getElem?_eq_getElem hDi
      have hop := h.op i _ hp
      have hoe : o = D[i].1 := by
        simp only [List.getElem?_toArray] at ho
        rw [hop] at ho; injection ho with ho; exact ho.symm
      have hset : (fun j => (listed.setIfInBounds i true).getD j false) = add (fun j => listed.getD j false) i := by
        funext j
        by_cases hj : i = j
        · subst hj
          rw [add_eq, Array.getD_eq_getD_getElem?, Array.getElem?_setIfInBounds_self, if_pos (by omega)]; rfl
        · rw [getD_set_ne _ hj, add_ne (Ne.symm hj)]
      have hnext : ∀ (a' : Act) (w' : World) (μ' : Mu), SRel B μ' (σS σ D (add (fun j => listed.getD j false) i)) a' w' → Un μ' σ.H.length D (add (fun j => listed.getD j false) i) →
          wpAnyIn (fw r) 0 P .any l.toArray (Post B Q) fuel (listed.setIfInBounds i true) a' w' := by
        intro a' w' μ' hr' hun'
        refine ih _ a' w' μ' (by simpa using hs) ?_ ?_ ?_ (by rw [hset]; exact hr') (by rw [hset]; exact hun')
        · intro k hk1 j hj
          by_cases hkj : i = j
          · subst hkj
            rw [Array.getD_eq_getD_getElem?, Array.getElem?_setIfInBounds_self, if_pos (by omega)]; rfl
          · rw [getD_set_ne _ hkj]
            by_cases hki : i = k
            · subst hki; exact hanc i hi j hj
            · rw [getD_set_ne _ hki] at hk1; exact hcl k hk1 j hj
        · intro j hj
          rw [getD_set_ne _ (by omega)]
          exact htl j hj
        · obtain ⟨R1, R2, hsp⟩ := List.append_of_mem ((hmem i).2 ⟨him, h0⟩)
          have hfil : (List.range m).filter (fun j => !(listed.setIfInBounds i true).getD j true) = R1 ++ R2 := by
            rw [← filter_pull hsp]
            congr 1
            funext j
            by_cases hj : i = j
            · subst hj
              rw [Array.getD_eq_getD_getElem?, Array.getElem?_setIfInBounds_self, if_pos (by omega)]; simp
            · rw [getD_set_ne _ hj]
              have : (j != i) = true := by simp; omega
              rw [this, Bool.true_and]
          rw [hfil]
          have : ((List.range m).filter fun j => !listed.getD j true).length = (R1 ++ R2).length + 1 := by rw [hsp]; simp; omega
          omega
      unfold wpOpIn
      rw [ho]
      simp only
      have hw := want_same (σ := σ) h hp hS (hanc i hi)
      rcases hc i him _ hp with ⟨hw1, hd⟩ | ⟨hw1, hd⟩
      · rw [hw1] at hw
        rw [hoe, if_pos (wantA_ok hw hr)]
        have hnd' : ∀ c, D[i].1.op ≠ .defer c := fun c hc' => by
          have := List.all_eq_true.1 hnd D[i].1 (List.mem_of_getElem? hop)
          unfold nDefer at this
          rw [hc'] at this; cases this
        have hstep := hd w B.X μ (σS σ D fun j => listed.getD j false).H a.eval hr.H (fun i ob hi => H_old i ob hi) (fun y hy => by rw [← ev_same h hp hS (hanc i hi) y hy]; exact hr.ev y)
        refine stepOk_wpIn hnd' hstep fun u w' ⟨hb, hres⟩ => ?_
        cases hN : D[i].2.N with
        | none =>
          rw [hN] at hres
          refine hnext _ _ μ (step_plain h hp hS hN hr hb hres) fun k p ob hk hN' hs' => ?_
          refine hun k p ob hk hN' ?_
          have : k ≠ i := by rintro rfl; rw [add_eq] at hs'; cases hs'
          rw [add_ne this] at hs'; exact hs'
        | some ob =>
          rw [hN] at hres
          obtain ⟨b, mb, cur, e1, e2, e3, e4, e5, e6⟩ := hres
          obtain ⟨μ', g1, g2⟩ := step_new h hp hS hN hr hun hb e1 e2 e3 e4 e5 e6
          exact hnext _ _ μ' g1 g2
      · rw [hw1] at hw
        rw [hoe, if_neg (by rw [wantA_ok hw hr]; simp)]
        refine ⟨fun f _ => fw_fn r f, ?_⟩
        have hN : D[i].2.N = none := by rw [hd]
        refine hnext _ _ μ (step_plain h hp hS hN hr (Below.refl _ _) (by rw [hd]; exact .lit _)) fun k p ob hk hN' hs' => ?_
        refine hun k p ob hk hN' ?_
        have : k ≠ i := by rintro rfl; rw [add_eq] at hs'; cases hs'
        rw [add_ne this] at hs'; exact hs'
/-- The walk of the first operations, in the text's order: D: what they have answered so far. -/
def AD (P : Program) (l : List Oper) (σ : St) (T : List (Oper × DR) → Prop) : List Oper → List (Oper × DR) → Prop
  | [], D => T D
  | o :: rest, D => ∃ d : DR, ((wantA l (σS σ D fun _ => true) o = some true ∧ DStep P (σS σ D fun _ => true).ev σ.H (σ.H.length + nNews D) o d) ∨ (wantA l (σS σ D fun _ => true) o = some false ∧ d = ⟨.lit undef, none⟩)) ∧ AD P l σ T rest (D ++ [(o, d)])
theorem slotsS_pre (S : Nat → Bool) : ∀ (k : Nat) (D E : List (Oper × DR)) (s : List AV), (∀ j, j < D.length → S (k + j) = true) → (∀ j, D.length ≤ j → S (k + j) = false) → slotsS S k (D ++ E) s = slotsS (fun _ => true) k D s ∧ newsS S k (D ++ E) = newsS (fun _ => true) k D ++ newsS (fun _ => false) (k + D.length) E
  | k, [], E, s, h1, h2 => by
    have key : ∀ (E : List (Oper × DR)) (k : Nat) (s : List AV), (∀ j, S (k + j) = false) → slotsS S k E s = s ∧ newsS S k E = newsS (fun _ => false) k E := by
      intro E
      induction E with
      | nil => intro k s _; exact ⟨rfl, rfl⟩
      | cons p E ih =>
        intro k s hs
        obtain ⟨i1, i2⟩ := ih (k + 1) s fun j => by rw [← hs (j + 1)]; congr 1; omega
        have h0 : S k = false := hs 0
        exact ⟨by simp only [slotsS]; rw [h0]; exact i1, by simp only [newsS]; rw [h0, i2]⟩
    obtain ⟨k1, k2⟩ := key E k s fun j => h2 j (Nat.zero_le _)
    exact ⟨by simpa [slotsS] using k1, by simpa [newsS] using k2⟩
  | k, p :: D, E, s, h1, h2 => by
    have h0 : S k = true := h1 0 (by simp)
    obtain ⟨i1, i2⟩ := slotsS_pre S (k + 1) D E (setD s p.1.dst p.2.x) (fun j hj => by rw [← h1 (j + 1) (by simp; omega)]; congr 1; omega) (fun j hj => by rw [← h2 (j + 1) (by simp; omega)]; congr 1; omega)
    refine ⟨by simp only [List.cons_append, slotsS, h0]; exact i1, ?_⟩
    simp only [List.cons_append, newsS]
    rw [i2, h0]
    simp only [List.append_assoc, List.length_cons]
    congr 3
    omega
theorem nth_dead (σ : St) (D E : List (Oper × DR)) : True := trivial
theorem aw_draw (hm : P.follows .mixedOrders = true) {id : Nat} {l : List Oper} {σ : St} (m : Nat) (hok : okD l m = true) (hnd : l.all nDefer = true)
    (h : AD P l σ (fun D => AL P r l Q (l.drop m) (σS σ D fun _ => true)) (l.take m) []) : AW P r (.region id l.toArray true) Q σ := by
  have ok := okD_spec hok
  have hml : m ≤ l.length := by have := ok.s.le; simpa using this
  -- the results, one after the other
  have key : ∀ (R : List Oper) (D0 : List (Oper × DR)), D0.length + R.length = m → (∀ (k : Nat) p, D0[k]? = some p → l[k]? = some p.1) → (∀ (j : Nat) o, R[j]? = some o → l[D0.length + j]? = some o) → AD P l σ (fun D => AL P r l Q (l.drop m) (σS σ D fun _ => true)) R D0 →
      ∃ E, (D0 ++ E).length = m ∧ (∀ (k : Nat) p, (D0 ++ E)[k]? = some p → l[k]? = some p.1) ∧ AL P r l Q (l.drop m) (σS σ (D0 ++ E) fun _ => true) ∧ ∀ k, D0.length ≤ k → k < m → CStep P l σ (D0 ++ E) k := by
    intro R
    induction R with
    | nil =>
      intro D0 hl h0 hR h
      exact ⟨[], by simpa using hl, by simpa using h0, by simpa [AD] using h, fun k hk hk' => by simp at hl; omega⟩
    | cons o R ih =>
      intro D0 hl h0 hR h
      simp only [AD] at h
      obtain ⟨d, hd, hrest⟩ := h
      obtain ⟨E, e1, e2, e3, e4⟩ := ih (D0 ++ [(o, d)]) (by simp at hl ⊢; omega) (fun k p hk => by
        by_cases hlt : k < D0.length
        · rw [List.getElem?_append_left hlt] at hk; exact h0 k p hk
        · rw [List.getElem?_append_right (by omega)] at hk
          have : k - D0.length = 0 := by have := (List.getElem?_eq_some_iff.1 hk).1; simp at this; omega
          rw [this] at hk
          simp at hk; subst hk
          have := hR 0 o rfl
          rw [show k = D0.length + 0 by omega]; exact this) (fun j o' hj => by
        have := hR (j + 1) o' (by simpa using hj)
        rw [← this]; congr 1; simp; omega) hrest
      refine ⟨(o, d) :: E, by simpa using e1, by simpa using e2, by simpa using e3, fun k hk hk' => ?_⟩
      rcases Nat.eq_or_lt_of_le hk with he | hlt
      · subst he
        intro p hp
        have hpe : p = (o, d) := by simpa using hp.symm
        subst hpe
        have hpre := slotsS_pre (txt D0.length) 0 D0 ((o, d) :: E) σ.s (fun j hj => by unfold txt; rw [Nat.blt_eq]; omega) (fun j hj => by
          unfold txt
          cases hb : Nat.blt (0 + j) D0.length with
          | false => rfl
          | true => rw [Nat.blt_eq] at hb; omega)
        have hslots : (σS σ (D0 ++ (o, d) :: E) (txt D0.length)).s = (σS σ D0 fun _ => true).s := hpre.1
        have hev : (σS σ (D0 ++ (o, d) :: E) (txt D0.length)).ev = (σS σ D0 fun _ => true).ev := by
          funext y
          cases y <;> simp only [St.ev, hslots]
        have hwant : wantA l (σS σ (D0 ++ (o, d) :: E) (txt D0.length)) o = wantA l (σS σ D0 fun _ => true) o := by
          unfold wantA; rw [hslots]
        have hidd : idD σ.H.length (D0 ++ (o, d) :: E) D0.length = σ.H.length + nNews D0 := by simp [idD]
        simp only
        rw [hwant, hev, hidd]
        exact hd
      · have := e4 k (by simp; omega) hk'
        simpa using this
  obtain ⟨E, e1, e2, e3, e4⟩ := key (l.take m) [] (by simp; omega) (fun k p hk => by simp at hk) (fun j o hj => by
    rw [List.getElem?_take] at hj
    split at hj
    · simpa using hj
    · cases hj) h
  simp only [List.nil_append] at e1 e2 e3 e4
  have hD : DOk l m E := ⟨ok, e1, e2⟩
  intro B μ a w hr
  refine wpIn_region_any hm ?_
  have hno : ∀ j, (Array.replicate l.toArray.size false).getD j false = false := fun j => by
    simp only [Array.getD_eq_getD_getElem?, Array.getElem?_replicate]
    split <;> rfl
  have hS0 : (fun j => (Array.replicate l.toArray.size false).getD j false) = fun _ => false := by funext j; exact hno j
  -- at the start nothing is made: the numbers are set aside
  have hslots0 : ∀ (D : List (Oper × DR)) (k : Nat) (s : List AV), slotsS (fun _ => false) k D s = s := by
    intro D
    induction D with
    | nil => intro k s; rfl
    | cons p D ih => intro k s; simp only [slotsS]; exact ih (k + 1) s
  have hun0 : Un μ σ.H.length E (fun _ => false) := fun k p ob hk hN _ => by
    cases hm : μ (idD σ.H.length E k) with
    | none => rfl
    | some l => have := hr.H.dom _ l hm; unfold idD at this; omega
  have hdead : ∀ (i : Nat) o, (newsS (fun _ => false) 0 E)[i]? = some o → o.st = 2 := fun i o hi => by
    obtain ⟨j, p, ob, _, _, _, h4⟩ := newsS_all _ 0 E i o hi
    rw [h4]
  have hr0 : SRel B μ (σS σ E fun _ => false) a w.drew := by
    have hoo : ∀ b, OO B.X (σ.H ++ newsS (fun _ => false) 0 E) μ b → OO B.X σ.H μ b := by
      rintro b (hx | ⟨i, o, m', hi, hs, hm'⟩)
      · exact .inl hx
      · by_cases hlt : i < σ.H.length
        · rw [List.getElem?_append_left hlt] at hi; exact .inr ⟨i, o, m', hi, hs, hm'⟩
        · rw [List.getElem?_append_right (by omega)] at hi
          have := hdead _ o hi; omega
    have up : ∀ {ν : Mu} {x : AV} {v : Value}, RV (OO B.X σ.H μ) w ν x v → RV (OO B.X (σ.H ++ newsS (fun _ => false) 0 E) μ) w.drew ν x v := fun {ν x v} hx => RV.mono (w := w) (w' := w.drew) (fun b _ hb => hoo b hb) (fun _ _ _ => rfl) hx ν fun _ _ h => h
    refine ⟨by simp only [σS, hslots0]; exact hr.size, fun t x v hx hv => ?_, ⟨fun i l hi => by simp only [σS, List.length_append]; have := hr.H.dom i l hi; omega, hr.H.inj, hr.H.lt, fun i o hi hs => ?_, hr.H.xlt, hr.H.gl.step (Nat.le_refl _) (fun _ _ _ _ => rfl) (fun _ h => .inl h) fun i b m h => .inl ⟨i, m, h⟩⟩, hr.df.step (Chg.drew _ _) (Ext.refl _ _) hr.H.lt, hr.chg.trans hr.ext (Chg.drew _ _), hr.ext, hr.nb, by simp only [σS, List.length_append]; have := hr.le; omega, fun k x v hk hx => up (hr.pres k x v hk hx)⟩
    · simp only [σS, hslots0] at hx
      exact up (hr.slot t x v hx hv)
    · simp only [σS] at hi
      by_cases hlt : i < σ.H.length
      · rw [List.getElem?_append_left hlt] at hi
        exact ObjAt.mono (w := w) (w' := w.drew) (fun b _ hb => hoo b hb) (fun _ _ _ => rfl) (fun _ _ h => h) (fun _ _ _ => rfl) (hr.H.obj i o hi hs)
      · rw [List.getElem?_append_right (by omega)] at hi
        have := hdead _ o hi; omega
  refine draw_any (okD_s hok) hD hnd (fun k hk => e4 k (by simp) hk) e3 l.toArray.size _ a w.drew μ (by simp) (fun i hi => by rw [hno] at hi; cases hi) (fun j _ => hno j) ?_ (by rw [hS0]; exact hr0) (by rw [hS0]; exact hun0)
  have hfil : (List.range m).filter (fun j => !(Array.replicate l.toArray.size false).getD j true) = List.range m := by
    rw [List.filter_eq_self]
    intro j hj
    have := List.mem_range.1 hj
    simp [Array.getD_eq_getD_getElem?, Array.getElem?_replicate, show j < l.length by omega]
  rw [hfil, List.length_range]
  simp; omega
end Go.Proofs.YthcoccoanpmhgaaDoor
