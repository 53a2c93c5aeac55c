/- A region that draws its order, small: each order by itself (AO). -/
import Derived.Test.YthcoccoanpmhgaaDoorADrawL
import Derived.Test.YthcoccoanpmhgaaDoorAIter
namespace Go.Proofs.YthcoccoanpmhgaaDoor
open Go.RowKit
set_option linter.unusedVariables false
set_option linter.unusedSimpArgs false
set_option linter.unusedSectionVars false
variable {P : Program} {tab : Tab} {r : Option Nat} {Q : Exit → St → Prop}
theorem oper_monoP {F : Fence} {n : Nat} {o : Oper} {a : Act} {w : World} {K K' : Act → World → Prop} {Q Q' : Exit → Act → World → Prop} (hq : ∀ e a w, e ≠ .normal → Q e a w → Q' e a w) (h : ∀ a w, K a w → K' a w) (hh : o.wpIn F n P a w K Q) : o.wpIn F n P a w K' Q' := by
  unfold Oper.wpIn at *
  refine ⟨hh.1, ?_⟩
  have hh := hh.2
  have hlo : LetsOut Q → LetsOut Q' := fun ⟨a, w, h⟩ => ⟨a, w, hq _ _ _ (by simp) h⟩
  generalize (o.semAt F.round a.eval).run P w = r at *
  cases r with
  | ok x w' =>
    cases x <;> simp only [Oper.uponIn] at hh ⊢ <;>
      first
        | exact h _ _ hh
        | exact ⟨hh.1, CallsIn.mono hh.2 (fun e w'' he => by cases e <;> first | exact h _ _ he | exact hq _ _ _ (by simp) he | exact hlo he)⟩
        | exact ⟨hh.1, RowsIn.mono hh.2 (fun _ _ he => h _ _ he)⟩
        | exact ⟨hh.1, RoundIn.mono hh.2 (fun e w'' he => by cases e <;> first | exact h _ _ he | exact hq _ _ _ (by simp) he | exact hlo he)⟩
  | halt x w' => cases x <;> simp only [Oper.uponIn] at hh ⊢ <;> first | exact hh | exact hq _ _ _ (by simp) hh
theorem wpAnyIn_monoQ {F : Fence} {n : Nat} {md : Region.Mode} {ops : Array Oper} {Q Q' : Exit → Act → World → Prop} (hq : ∀ e a w, Q e a w → Q' e a w) : ∀ {f : Nat} {ls : Array Bool} {a : Act} {w : World}, wpAnyIn F n P md ops Q f ls a w → wpAnyIn F n P md ops Q' f ls a w
  | 0, ls, a, w, h => ⟨h.1, hq _ _ _ h.2⟩
  | f + 1, ls, a, w, h => by
    refine ⟨fun he => hq _ _ _ (h.1 he), fun i hi => ?_⟩
    have := h.2 i hi
    unfold wpOpIn at this ⊢
    split
    · rename_i hn; rw [hn] at this; exact wpAnyIn_monoQ hq this
    · rename_i o ho
      rw [ho] at this
      simp only at this
      split
      · rename_i hw; rw [if_pos hw] at this; exact oper_monoQ hq (fun _ _ h => wpAnyIn_monoQ hq h) this
      · rename_i hw; rw [if_neg hw] at this; exact ⟨this.1, wpAnyIn_monoQ hq this.2⟩
/-- Operations that are ready, each of them next. -/
def AO (P : Program) (r : Option Nat) (l : List Oper) (Q : Exit → St → Prop) : Nat → List Bool → St → Prop
  | 0, ls, σ => Region.ready .any l.toArray ls.toArray = [] ∧ Q .normal σ
  | f + 1, ls, σ => (Region.ready .any l.toArray ls.toArray = [] → Q .normal σ) ∧ ∀ i ∈ Region.ready .any l.toArray ls.toArray, ∀ o, l[i]? = some o → AL P r l (Then (AO P r l Q f (ls.set i true)) Q) [o] σ
theorem SRel.drew {B : Base P} {μ : Mu} {σ : St} {a : Act} {w : World} (hr : SRel B μ σ a w) : SRel B μ σ a w.drew := by
  have up : ∀ {ν : Mu} {x : AV} {v : Value}, RV (OO B.X σ.H μ) w ν x v → RV (OO B.X σ.H μ) w.drew ν x v := fun {ν x v} hx => RV.mono (w := w) (w' := w.drew) (fun b _ hb => hb) (fun _ _ _ => rfl) hx ν fun _ _ h => h
  exact ⟨hr.size, fun t x v hx hv => up (hr.slot t x v hx hv), ⟨hr.H.dom, hr.H.inj, hr.H.lt, fun i o hi hs => ObjAt.mono (w := w) (w' := w.drew) (fun b _ hb => hb) (fun _ _ _ => rfl) (fun _ _ h => h) (fun _ _ _ => rfl) (hr.H.obj i o hi hs), hr.H.xlt, hr.H.gl.step (w' := w.drew) (Nat.le_refl _) (fun _ _ _ _ => rfl) (fun _ h => .inl h) fun i b m h => .inl ⟨i, m, h⟩⟩, hr.df.step (Chg.drew _ _) (Ext.refl _ _) hr.H.lt, hr.chg.trans hr.ext (Chg.drew _ _), hr.ext, hr.nb, hr.le, fun k x v hk hx => up (hr.pres k x v hk hx)⟩
theorem ao_sound {l : List Oper} : ∀ (f : Nat) (ls : List Bool) (σ : St) (B : Base P) (μ : Mu) (a : Act) (w : World), AO P r l Q f ls σ → SRel B μ σ a w → wpAnyIn (fw r) 0 P .any l.toArray (Post B Q) f ls.toArray a w
  | 0, ls, σ, B, μ, a, w, h, hr => ⟨h.1, σ, h.2, hr.sx⟩
  | f + 1, ls, σ, B, μ, a, w, h, hr => by
    refine ⟨fun he => ⟨σ, h.1 he, hr.sx⟩, fun i hi => ?_⟩
    obtain ⟨_, o, ho, _⟩ := mem_ready.1 hi
    have hl : l[i]? = some o := by simpa using ho
    have := h.2 i hi o hl B μ a w hr
    have hp : ∀ e a w, e ≠ .normal → Post B (Then (AO P r l Q f (ls.set i true)) Q) e a w → Post B Q e a w := fun e a w hne ⟨σ', h1, h2⟩ => ⟨σ', by cases e <;> first | exact absurd rfl hne | exact h1, h2⟩
    have hk : ∀ a' w', wpListIn (fw r) 0 P l.toArray (Post B (Then (AO P r l Q f (ls.set i true)) Q)) [] a' w' → wpAnyIn (fw r) 0 P .any l.toArray (Post B Q) f (ls.toArray.setIfInBounds i true) a' w' := by
      rintro a' w' ⟨σ', h1, μ', X', hg, h3⟩
      have e : ls.toArray.setIfInBounds i true = (ls.set i true).toArray := by simp
      rw [e]
      exact wpAnyIn_monoQ (fun e a w h => h.trans hg) (ao_sound f _ σ' (B.at_ X') μ' a' w' h1 h3)
    unfold wpOpIn
    rw [ho]
    unfold wpListIn at this
    simp only
    split
    · rename_i hw; rw [if_pos hw] at this; exact oper_monoP hp hk this
    · rename_i hw; rw [if_neg hw] at this; exact ⟨this.1, hk _ _ this.2⟩
theorem aw_orders (hm : P.follows .mixedOrders = true) {id : Nat} {l : List Oper} {b : Bool} (hb : b = true) {σ : St} (h : AO P r l Q l.length (List.replicate l.length false) σ) : AW P r (.region id l.toArray b) Q σ := by
  subst hb
  intro B μ a w hr
  refine wpIn_region_any hm ?_
  have := ao_sound l.length _ σ B μ a w.drew h hr.drew
  simpa using this
/-- Each operation that is ready, next. -/
def EachR (P : Program) (r : Option Nat) (l : List Oper) (Q : Exit → St → Prop) (f : Nat) (ls : List Bool) (σ : St) : Nat → List Oper → Prop
  | _, [] => True
  | k, o :: R => ((Region.ready .any l.toArray ls.toArray).contains k = true → AL P r l (Then (AO P r l Q f (ls.set k true)) Q) [o] σ) ∧ EachR P r l Q f ls σ (k + 1) R
theorem eachR_at {l : List Oper} {f : Nat} {ls : List Bool} {σ : St} : ∀ (R : List Oper) (k : Nat), EachR P r l Q f ls σ k R → ∀ (j : Nat) o, R[j]? = some o → (Region.ready .any l.toArray ls.toArray).contains (k + j) = true → AL P r l (Then (AO P r l Q f (ls.set (k + j) true)) Q) [o] σ
  | [], k, _, j, o, hj, _ => by simp at hj
  | o' :: R, k, h, 0, o, hj, hc => by simp at hj; subst hj; exact h.1 hc
  | o' :: R, k, h, j + 1, o, hj, hc => by
    have := eachR_at R (k + 1) h.2 j o (by simpa using hj)
    rw [show k + 1 + j = k + (j + 1) by omega] at this
    exact this hc
theorem ev_skip {l : List Oper} {f : Nat} {ls : List Bool} {σ : St} {k : Nat} {o : Oper} {R : List Oper} (h : (Region.ready .any l.toArray ls.toArray).contains k = false) (next : EachR P r l Q f ls σ (k + 1) R) : EachR P r l Q f ls σ k (o :: R) := ⟨fun hc => (by rw [h] at hc; cases hc), next⟩
theorem ev_take {l : List Oper} {f : Nat} {ls : List Bool} {σ : St} {k : Nat} {o : Oper} {R : List Oper} (h : AL P r l (Then (AO P r l Q f (ls.set k true)) Q) [o] σ) (next : EachR P r l Q f ls σ (k + 1) R) : EachR P r l Q f ls σ k (o :: R) := ⟨fun _ => h, next⟩
theorem ev_nil {l : List Oper} {f : Nat} {ls : List Bool} {σ : St} {k : Nat} : EachR P r l Q f ls σ k [] := trivial
theorem ao_node {l : List Oper} {f : Nat} {ls : List Bool} {σ : St} (hne : (Region.ready .any l.toArray ls.toArray).isEmpty = false) (h : EachR P r l Q f ls σ 0 l) : AO P r l Q (f + 1) ls σ := by
  unfold AO
  exact ⟨fun he => (by rw [he] at hne; cases hne), fun i hi o ho => by
    have := eachR_at l 0 h i o ho (by simpa using hi)
    simpa using this⟩
theorem ao_end {l : List Oper} {f : Nat} {ls : List Bool} {σ : St} (hr : Region.ready .any l.toArray ls.toArray = []) (h : Q .normal σ) : AO P r l Q f ls σ := by
  cases f with
  | zero => exact ⟨hr, h⟩
  | succ f => exact ⟨fun _ => h, by rw [hr]; intro i hi; cases hi⟩
theorem then_ao {l : List Oper} {f : Nat} {ls : List Bool} {Q' : Exit → St → Prop} {σ : St} (h : AO P r l Q f ls σ) : Then (AO P r l Q f ls) Q' .normal σ := h
end Go.Proofs.YthcoccoanpmhgaaDoor
