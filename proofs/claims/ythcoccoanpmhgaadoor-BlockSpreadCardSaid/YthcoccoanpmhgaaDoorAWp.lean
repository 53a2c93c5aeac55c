/- The walk, without memory: states (St), how they stand for the machine's (SRel), operations in the text's order (AL), code (AW), calls (ACall). -/
import Derived.Test.YthcoccoanpmhgaaDoorAMut
import Derived.TacticsIn
import Derived.RangeFuncSeq
import Derived.RangeFuncLeaves
import Derived.RangeFuncRecord
import Derived.RangeFuncOwn
namespace Go.Proofs.YthcoccoanpmhgaaDoor
open Go.RowKit
set_option linter.unusedVariables false
set_option linter.unusedSimpArgs false
set_option linter.unusedSectionVars false

abbrev fw (r : Option Nat) : Fence := { Fence.wide with round := r }
theorem fw_fn (r : Option Nat) (f : FuncId) : (fw r).fn f := trivial
theorem fw_room (r : Option Nat) (n : Nat) : (fw r).room n := fun _ h => by simp [fw, Fence.wide] at h

/-- What a walk knows beside its slots and objects: how many objects there were at its start; how many yields were done, whether the last one said no; what is yielded; whether there is no mark. -/
structure YB where
  n : Nat
  y : Nat := 0
  stop : Bool := false
  sp : Option (Nat × (Nat → List AV) × Nat) := none
  nm : Bool := true
structure St where
  s : List AV
  H : List AObj
  fg : List Nat := []
  nb : YB := ⟨0, 0, false, none, true⟩
def St.ev (σ : St) : Operand → AV
  | .tmp t => (nth σ.s t).getD .junk
  | .const v => .lit v
  | .func f => .fn (.func f) [] []
  | .global _ => .junk
def St.put (σ : St) (d : Option Tmp) (r : AV) : St := match d with | some d => ⟨setn σ.s d r, σ.H, σ.fg, σ.nb⟩ | none => σ
def fgs (l : List Nat) (a : AV) : AV := l.foldl (fun a id => forget id 4 a) a
/-- Of what is forgotten: what lies below k. -/
def fgk (k : Nat) (l : List Nat) : List Nat := l.filter fun i => Nat.blt i k
theorem fgk_fgk {k n : Nat} (h : k ≤ n) (l : List Nat) : fgk k (fgk n l) = fgk k l := by
  unfold fgk
  rw [List.filter_filter]
  congr 1
  funext i
  cases hb : Nat.blt i k with
  | false => rfl
  | true => rw [Nat.blt_eq] at hb; rw [Bool.true_and, Nat.blt_eq]; omega
theorem fgk_append (k : Nat) (l m : List Nat) : fgk k (l ++ m) = fgk k l ++ fgk k m := List.filter_append ..
def InMu (μ : Mu) (b : Nat) : Prop := ∃ i m, μ i = some (some (b, m))
/-- No block below is another one, but foreign ones. -/
structure Same (X : Nat → Prop) (w w' : World) : Prop where
  os : w'.os = w.os
  tape : w'.tape = w.tape
  output : w'.output = w.output
  size : w.heap.size ≤ w'.heap.size
  block : ∀ k, k < w.heap.size → ¬ X k → w'.heap[k]? = w.heap[k]?
/-- Where a call began: the foreign blocks X; what foreigners may rely on, behind so many yields (J). -/
structure Base (P : Program) where
  w : World
  X : Nat → Prop
  μ : Mu
  H : List AObj
  Y : Nat → Prop
  sp : Option (Nat × (Nat → List AV) × Nat)
  J : Nat → Bool → (Nat → Prop) → (Nat → Prop) → World → Prop
  kp : Option (Nat × Obj)
structure Base.Ok {P : Program} (B : Base P) : Prop where
  keep : ∀ y t X O w w' O', B.J y t X O w → Same O w w' → (∀ k, O' k → (O k ∨ w.heap.size ≤ k) ∧ ¬ X k ∧ k < w'.heap.size) → B.J y t X O' w'
  yl : ∀ l xs n, B.sp = some (l, xs, n) → ∀ y X O w (vs : List Value), B.J y false X O w → y < n → RVs (fun b => X b ∨ O b) w noMu (xs y) vs → ∀ r, YieldAt (fw r) 0 P l vs.toArray w fun e w' =>
    ∃ (t : Bool) (X' : Nat → Prop), e = .returned (.bool t) ∧ B.J (y + 1) (!t) X' O w' ∧ (∀ b, X b → X' b) ∧ (∀ b, X' b → (X b ∨ w.heap.size ≤ b) ∧ b < w'.heap.size) ∧ Same X w w'
/-- From w to w' no block was written but those of one's own, and foreign ones. -/
structure ChgY (Y : Nat → Prop) (μ : Mu) (w w' : World) : Prop where
  os : w'.os = w.os
  tape : w'.tape = w.tape
  output : w'.output = w.output
  size : w.heap.size ≤ w'.heap.size
  block : ∀ k, k < w.heap.size → (∀ i m, μ i ≠ some (some (k, m))) → ¬ Y k → w'.heap[k]? = w.heap[k]?
theorem ChgY.trans {Y : Nat → Prop} {μ μ' : Mu} {a b c : World} (h : ChgY Y μ a b) (he : Ext μ a μ') (h' : Chg μ' b c) : ChgY Y μ a c :=
  ⟨h'.os.trans h.os, h'.tape.trans h.tape, h'.output.trans h.output, Nat.le_trans h.size h'.size, fun k hk hn hy =>
    (h'.block k (Nat.lt_of_lt_of_le hk h.size) fun i m hi => by
      rcases he i k m hi with ⟨j, m', hj⟩ | hlt
      · exact hn j m' hj
      · omega).trans (h.block k hk hn hy)⟩
/-- The blocks that are not for foreigners: those of one's own, and the marks. -/
def Mine (μ : Mu) (ds : List Deferred) (b : Nat) : Prop := InMu μ b ∨ ({ target := .collected b, args := #[] } : Deferred) ∈ ds
/-- The rest of what is known: of yields, and of marks among the deferred calls. -/
structure Ex {P : Program} (B : Base P) (μ : Mu) (nb : YB) (ds : List Deferred) (w : World) : Prop where
  sp : nb.sp = B.sp
  ok : B.Ok
  jr : B.J nb.y nb.stop B.X (Mine μ ds) w
  marks : ∀ d ∈ ds, ∃ D, d = { target := .collected D, args := #[] } ∧ w.heap[D]? = some (.deferred (some [])) ∧ ¬ InMu μ D ∧ ¬ B.X D ∧ B.w.heap.size ≤ D
  apart : ds.Pairwise (· ≠ ·)
  nm : nb.nm = true → ds = []
  xy : B.sp ≠ none → ∀ k, B.X k → k < B.w.heap.size → B.Y k
  triv : B.sp = none → ∀ y t X O w, B.J y t X O w
  kp : ∀ D o, B.kp = some (D, o) → w.heap[D]? = some o ∧ ¬ InMu μ D ∧ ¬ B.X D ∧ D < B.w.heap.size
theorem Ex.step {P : Program} {B : Base P} {μ μ' : Mu} {nb : YB} {ds : List Deferred} {w w' : World} (h : Ex B μ nb ds w) (hc : Chg μ w w') (he : Ext μ w μ') (hx : ∀ i b m, μ' i = some (some (b, m)) → b < w'.heap.size ∧ ¬ B.X b) : Ex B μ' nb ds w' := by
  have hin : ∀ k, InMu μ' k → (InMu μ k ∨ w.heap.size ≤ k) ∧ ¬ B.X k ∧ k < w'.heap.size := fun k ⟨i, m, hi⟩ => ⟨(he i k m hi).imp (fun ⟨j, m', hj⟩ => ⟨j, m', hj⟩) id, (hx i k m hi).2, (hx i k m hi).1⟩
  have hmk : ∀ d ∈ ds, ∃ D, d = { target := .collected D, args := #[] } ∧ w'.heap[D]? = some (.deferred (some [])) ∧ ¬ InMu μ' D ∧ ¬ B.X D ∧ B.w.heap.size ≤ D := fun d hd => by
    obtain ⟨D, h1, h2, h3, h4, h5⟩ := h.marks d hd
    have hlt := (Array.getElem?_eq_some_iff.1 h2).1
    refine ⟨D, h1, (hc.block D hlt fun i m hi => h3 ⟨i, m, hi⟩).trans h2, fun hD => ?_, h4, h5⟩
    rcases (hin D hD).1 with h | h
    · exact h3 h
    · omega
  refine ⟨h.sp, h.ok, h.ok.keep _ _ _ _ w w' _ h.jr ⟨hc.os, hc.tape, hc.output, hc.size, fun k hk hn => hc.block k hk fun i m hi => hn (.inl ⟨i, m, hi⟩)⟩ fun k hk => ?_, hmk, h.apart, h.nm, h.xy, h.triv, fun D o ho => ?_⟩
  · rcases hk with hk | hk
    · exact ⟨(hin k hk).1.imp .inl id, (hin k hk).2⟩
    · obtain ⟨D, h1, h2, h3, h4, h5⟩ := hmk _ hk
      injection h1 with h1
      injection h1 with h1
      subst h1
      exact ⟨.inl (.inr hk), h4, (Array.getElem?_eq_some_iff.1 h2).1⟩
  · obtain ⟨h1, h2, h3, h4⟩ := h.kp D o ho
    have hlt := (Array.getElem?_eq_some_iff.1 h1).1
    exact ⟨(hc.block D hlt fun i m hi => h2 ⟨i, m, hi⟩).trans h1, fun hD => (hin D hD).1.elim h2 fun h => by omega, h3, h4⟩
theorem Ex.sub {P : Program} {B : Base P} {μ μ' : Mu} {nb : YB} {ds : List Deferred} {w : World} (h : Ex B μ nb ds w) (hs : ∀ b, InMu μ' b → InMu μ b) (hx : ∀ i b m, μ' i = some (some (b, m)) → b < w.heap.size ∧ ¬ B.X b) : Ex B μ' nb ds w :=
  h.step (Chg.refl _ _) (fun i b m hi => .inl (let ⟨j, m', hj⟩ := hs b ⟨i, m, hi⟩; ⟨j, m', hj⟩)) hx
structure SRel {P : Program} (B : Base P) (μ : Mu) (σ : St) (a : Act) (w : World) : Prop where
  size : σ.s.length = a.tmps.size
  slot : ∀ (t : Nat) x v, σ.s[t]? = some x → a.tmps[t]? = some v → RV (OO B.X σ.H μ) w μ x v
  H : HRel μ B.X σ.H w
  df : Ex B μ σ.nb a.defers w
  chg : ChgY B.Y B.μ B.w w
  ext : Ext B.μ B.w μ
  nb : σ.nb.n = B.H.length
  le : σ.nb.n ≤ σ.H.length
  pres : ∀ k x v, k ≤ σ.nb.n → RV (OO B.X B.H B.μ) B.w (upto k B.μ) x v → RV (OO B.X σ.H μ) w (upto k μ) (fgs (fgk k σ.fg) x) v
section
variable {P : Program} {tab : Tab} {B : Base P} {μ : Mu} {σ : St} {a : Act} {w : World} {r : Option Nat}
theorem SRel.ev (h : SRel B μ σ a w) (x : Operand) : RV (OO B.X σ.H μ) w μ (σ.ev x) (a.eval x) := by
  cases x with
  | tmp t =>
    simp only [St.ev, Act.eval, nth_eq]
    cases hs : σ.s[t]? with
    | none => exact .junk _
    | some x =>
      have hlt : t < a.tmps.size := by rw [← h.size]; exact (List.getElem?_eq_some_iff.1 hs).1
      have := h.slot t x a.tmps[t] hs (Array.getElem?_eq_getElem hlt)
      simpa [Array.getD_eq_getD_getElem?, hlt] using this
  | const v => exact .lit v
  | func f => exact .fn (vs := []) (us := []) rfl (fun j a v h => by simp at h) rfl (fun j a v h => by simp at h)
  | global g => exact .junk _
theorem SRel.put (h : SRel B μ σ a w) {x : AV} {v : Value} (hx : RV (OO B.X σ.H μ) w μ x v) (d : Option Tmp) : SRel B μ (σ.put d x) (a.put d v) w := by
  cases d with
  | none => exact h
  | some d =>
    refine ⟨by simp [St.put, Act.put, setn_eq, h.size], fun t y u hy hu => ?_, h.H, h.df, h.chg, h.ext, h.nb, h.le, h.pres⟩
    simp only [St.put, setn_eq, Act.put] at hy hu ⊢
    rw [Array.getElem?_setIfInBounds] at hu
    by_cases he : d = t
    · subst he
      rw [if_pos rfl] at hu
      split at hu
      · rename_i hlt
        injection hu with hu; subst hu
        rw [List.getElem?_set_self (by rw [h.size]; exact hlt)] at hy
        injection hy with hy; subst hy
        exact hx
      · cases hu
    · rw [if_neg he] at hu
      rw [List.getElem?_set_ne he] at hy
      exact h.slot t y u hy hu
/-- The state behind an operation, without its answer. -/
def St.behind (σ : St) (H' : List AObj) (fg : Option Nat) : St := match fg with | none => ⟨σ.s, H', σ.fg, σ.nb⟩ | some id => ⟨σ.s.map (forget id 4), H', (match Nat.blt id σ.nb.n with | true => σ.fg ++ [id] | false => σ.fg), σ.nb⟩
theorem SRel.step (h : SRel B μ σ a w) {H' : List AObj} {fg : Option Nat} {w' : World} {μ' : Mu} (hle : σ.H.length ≤ H'.length) (hH : HRel μ' B.X H' w') (he : Ext μ w μ') (hc : Chg μ w w') (hp : ∀ (k : Nat) x v, RV (OO B.X σ.H μ) w (upto k μ) x v → RV (OO B.X H' μ') w' (upto k μ') (fgA fg x) v ∧ ((∀ id, fg = some id → k ≤ id) → RV (OO B.X H' μ') w' (upto k μ') x v)) :
    SRel B μ' (σ.behind H' fg) a w' := by
  have hp0 : ∀ x v, RV (OO B.X σ.H μ) w μ x v → RV (OO B.X H' μ') w' μ' (fgA fg x) v := fun x v hx =>
    (hp σ.H.length x v (by rw [upto_all h.H.dom]; exact hx)).1.mono (fun _ _ h => h) (fun _ _ _ => rfl) _ (upto_le _ _)
  cases fg with
  | none => exact ⟨h.size, fun t x v hx hv => hp0 x v (h.slot t x v hx hv), hH, h.df.step hc he hH.lt, h.chg.trans h.ext hc, h.ext.trans h.chg.size he, h.nb, Nat.le_trans h.le hle, fun k x v hk hx => (hp k _ v (h.pres k x v hk hx)).1⟩
  | some id =>
    refine ⟨by simpa [St.behind] using h.size, fun t x v hx hv => ?_, hH, h.df.step hc he hH.lt, h.chg.trans h.ext hc, h.ext.trans h.chg.size he, h.nb, Nat.le_trans h.le hle, fun k x v hk hx => ?_⟩
    · simp only [St.behind, List.getElem?_map, Option.map_eq_some_iff] at hx
      obtain ⟨y, hy, rfl⟩ := hx
      exact hp0 y v (h.slot t y v hy hv)
    · have := hp k _ v (h.pres k x v hk hx)
      simp only [St.behind] at hk ⊢
      by_cases hik : id < k
      · have e1 : Nat.blt id σ.nb.n = true := by rw [Nat.blt_eq]; omega
        have e2 : Nat.blt id k = true := by rw [Nat.blt_eq]; exact hik
        rw [e1, fgk_append]
        simpa [St.behind, fgs, fgA, fgk, e2] using this.1
      · have h2 := this.2 fun id' he => by injection he with he; subst he; omega
        have e2 : Nat.blt id k = false := by cases hb : Nat.blt id k with | false => rfl | true => rw [Nat.blt_eq] at hb; omega
        split
        · rw [fgk_append]; simpa [fgk, e2] using h2
        · exact h2
end

section
variable {P : Program}
def Base.at_ (B : Base P) (X : Nat → Prop) : Base P := { B with X := X }
structure Grows (B : Base P) (X : Nat → Prop) : Prop where
  le : ∀ b, B.X b → X b
  new : ∀ b, X b → B.X b ∨ B.w.heap.size ≤ b
theorem Grows.refl (B : Base P) : Grows B B.X := ⟨fun _ h => h, fun _ h => .inl h⟩
theorem Grows.trans {B : Base P} {X X' : Nat → Prop} (h : Grows B X) (h' : Grows (B.at_ X) X') : Grows B X' := ⟨fun b hb => h'.le b (h.le b hb), fun b hb => (h'.new b hb).elim (fun hb => h.new b hb) .inr⟩
/-- The state, with as many foreign blocks as there are by now. -/
def SX (B : Base P) (σ : St) (a : Act) (w : World) : Prop := ∃ μ X, Grows B X ∧ SRel (B.at_ X) μ σ a w
theorem SRel.sx {B : Base P} {μ : Mu} {σ : St} {a : Act} {w : World} (h : SRel B μ σ a w) : SX B σ a w := ⟨μ, B.X, .refl B, h⟩
theorem SX.trans {B : Base P} {X : Nat → Prop} (hg : Grows B X) {σ : St} {a : Act} {w : World} (h : SX (B.at_ X) σ a w) : SX B σ a w := by
  obtain ⟨μ, X', h1, h2⟩ := h
  exact ⟨μ, X', hg.trans h1, h2⟩
def Post (B : Base P) (Q : Exit → St → Prop) (e : Exit) (a : Act) (w : World) : Prop := ∃ σ, Q e σ ∧ SX B σ a w
theorem Post.trans {B : Base P} {X : Nat → Prop} (hg : Grows B X) {Q : Exit → St → Prop} {e : Exit} {a : Act} {w : World} (h : Post (B.at_ X) Q e a w) : Post B Q e a w := by
  obtain ⟨σ, h1, h2⟩ := h
  exact ⟨σ, h1, h2.trans hg⟩
end
/-- Operations in the text's order, from a state on: whatever world stands for the state. -/
def AL (P : Program) (r : Option Nat) (l : List Oper) (Q : Exit → St → Prop) (R : List Oper) (σ : St) : Prop :=
  ∀ (B : Base P) (μ : Mu) (a : Act) (w : World), SRel B μ σ a w → wpListIn (fw r) 0 P l.toArray (Post B Q) R a w
def AW (P : Program) (r : Option Nat) (c : Code) (Q : Exit → St → Prop) (σ : St) : Prop :=
  ∀ (B : Base P) (μ : Mu) (a : Act) (w : World), SRel B μ σ a w → c.wpIn (fw r) 0 P (Post B Q) a w
/-- A call: of what reads so, with these objects; its answer, the objects behind it, what is forgotten. -/
def ACall (P : Program) (f : FuncId) (args : List AV) (H : List AObj) (K : AV → List AObj → List Nat → Prop) : Prop :=
  ∀ (w : World) (X : Nat → Prop) (μ : Mu) (vs : List Value), HRel μ X H w → RVs (OO X H μ) w μ args vs → Calls P f vs.toArray w fun e w' =>
    ∃ v r H' fg μ', e = .returned v ∧ K r H' fg ∧ HRel μ' X H' w' ∧ RV (OO X H' μ') w' μ' r v ∧ Chg μ w w' ∧ Ext μ w μ' ∧ H.length ≤ H'.length ∧ ∀ k x u, k ≤ H.length → RV (OO X H μ) w (upto k μ) x u → RV (OO X H' μ') w' (upto k μ') (fgs (fgk k fg) x) u
/-- Is the operation wanted? -/
def wantA (l : List Oper) (σ : St) (o : Oper) : Option Bool :=
  match o.guard with
  | none => some true
  | some (j, want) => match nth l j with
    | some oj => match oj.dst with
      | some d => match nth σ.s d with
        | some (.lit (.bool b)) => some (b == want)
        | some (.lit (.tuple _)) => some false
        | _ => none
      | none => some false
    | none => some false

section
variable {P : Program} {tab : Tab} {r : Option Nat} {l R : List Oper} {Q : Exit → St → Prop} {σ : St} {o : Oper}
theorem wantA_ok {b : Bool} (h : wantA l σ o = some b) {B : Base P} {μ : Mu} {a : Act} {w : World} (hr : SRel B μ σ a w) : Region.wanted o (yielded l.toArray a.tmps) = b := by
  unfold wantA at h
  unfold Region.wanted
  split at h
  · rename_i hg; rw [hg]; injection h
  · rename_i j want hg
    rw [hg]
    simp only
    unfold yielded
    simp only [nth_eq] at h
    simp only [List.getElem?_toArray]
    cases hj : l[j]? with
    | none => simp only [hj, Option.some.injEq] at h; rw [← h]; rfl
    | some oj =>
      rw [hj] at h
      simp only at h
      cases hd : oj.dst with
      | none => simp only [hd, Option.some.injEq] at h; rw [← h]; simp [hd]
      | some d =>
        rw [hd] at h
        simp only at h
        have key : ∀ x, σ.s[d]? = some x → ∃ v, a.tmps[d]? = some v ∧ RV (OO B.X σ.H μ) w μ x v := fun x hx => by
          have hlt : d < a.tmps.size := by rw [← hr.size]; exact (List.getElem?_eq_some_iff.1 hx).1
          exact ⟨_, Array.getElem?_eq_getElem hlt, hr.slot d x _ hx (Array.getElem?_eq_getElem hlt)⟩
        split at h
        · rename_i b' hs
          injection h with h; subst h
          obtain ⟨v, hv, hx⟩ := key _ hs
          rw [hx.lit_eq] at hv
          simp [hd, hv]
        · rename_i b' hs
          injection h with h; subst h
          obtain ⟨v, hv, hx⟩ := key _ hs
          rw [hx.lit_eq] at hv
          simp [hd, hv]
        · cases h
theorem al_nil (h : Q .normal σ) : AL P r l Q [] σ := fun B μ a w hr => ⟨σ, h, hr.sx⟩
/-- An operation that is no call of a function. -/
theorem al_mut (hw : wantA l σ o = some true) (hd : ∀ c, o.op ≠ .defer c) {x : AV} {H' : List AObj} {fg : Option Nat}
    (h : ∀ (B : Base P) (μ : Mu) (a : Act) (w : World), SRel B μ σ a w → MutOk P (execOp a.eval o) B.X μ σ.H w x H' fg ∧ σ.H.length ≤ H'.length) (next : AL P r l Q R ((σ.behind H' fg).put o.dst x)) : AL P r l Q (o :: R) σ := by
  intro B μ a w hr
  unfold wpListIn
  rw [if_pos (wantA_ok hw hr)]
  obtain ⟨⟨n, u, w', μ', h1, h2, h3, h4, h5, h6, h7⟩, hle⟩ := h B μ a w hr
  refine ⟨fun f _ => fw_fn r f, ?_⟩
  rw [Oper.semAt_eq _ _ _ hd, h1]
  have hs := (hr.step hle h3 h4 h5 h7).put (x := x) (v := u) (by cases fg <;> exact h6) o.dst
  rcases h2 with rfl | ⟨rfl, rfl⟩
  · exact next B μ' _ w' hs
  · exact next B μ' _ w' hs
theorem al_skip (hw : wantA l σ o = some false) (next : AL P r l Q R (σ.put o.dst (.lit undef))) : AL P r l Q (o :: R) σ := by
  intro B μ a w hr
  unfold wpListIn
  rw [if_neg (by rw [wantA_ok hw hr]; simp)]
  exact ⟨fun f _ => fw_fn r f, next B μ _ w (hr.put (.lit undef) o.dst)⟩
def notDefer : Op → Bool | .defer _ => false | _ => true
theorem notDefer_ok {o : Oper} (h : notDefer o.op = true) : ∀ c, o.op ≠ .defer c := fun c hc => by rw [hc] at h; cases h
theorem al_pure (hT : TabOk P tab) (hw : wantA l σ o = some true) {q : Prop} {x : AV} (h : aPure tab σ.H σ.ev o.op = some (q, x)) (hq : q) (next : AL P r l Q R (σ.put o.dst x)) : AL P r l Q (o :: R) σ := by
  have hd : ∀ c, o.op ≠ .defer c := fun c hc => by rw [hc] at h; simp [aPure] at h
  refine al_mut (H' := σ.H) (fg := none) hw hd (fun B μ a w hr => ?_) next
  obtain ⟨u, h1, h2⟩ := pure_sound hT h hq hr.H hr.ev
  exact ⟨⟨_, u, w, μ, h1, .inl rfl, hr.H, Ext.refl _ _, Chg.refl _ _, h2, fun _ _ _ h => ⟨h, fun _ => h⟩⟩, Nat.le_refl _⟩
theorem al_new (hT : TabOk P tab) (hw : wantA l σ o = some true) {q : Prop} {x : AV} {ob : AObj} (h : aNew tab σ.ev σ.H.length o.op = some (q, x, ob)) (hq : q) (next : AL P r l Q R (St.put ⟨σ.s, σ.H ++ [ob], σ.fg, σ.nb⟩ o.dst x)) : AL P r l Q (o :: R) σ := by
  have hd : ∀ c, o.op ≠ .defer c := fun c hc => by rw [hc] at h; simp [aNew] at h
  exact al_mut (H' := σ.H ++ [ob]) (fg := none) hw hd (fun B μ a w hr => ⟨(new_ok hT hr.ev h hq).mut hr.H, by simp⟩) next
theorem aStore_len {H H' : List AObj} {t : TypeId} {p x : AV} {q : Prop} (h : aStore tab H t p x = some (q, H')) : H'.length = H.length := by
  unfold aStore at h
  repeat (split at h)
  all_goals first
    | (cases h; done)
    | (injection h with h; injection h with e1 e2; subst e2; simp [setn_eq])
theorem al_store (hT : TabOk P tab) (hw : wantA l σ o = some true) {t : TypeId} {px xx : Operand} (ho : o.op = .store t px xx) {q : Prop} {H' : List AObj} (h : aStore tab σ.H t (σ.ev px) (σ.ev xx) = some (q, H')) (hq : q)
    (next : AL P r l Q R (St.put ⟨σ.s, H', σ.fg, σ.nb⟩ o.dst (.lit undef))) : AL P r l Q (o :: R) σ := by
  refine al_mut (H' := H') (fg := none) hw (fun c hc => by rw [ho] at hc; cases hc) (fun B μ a w hr => ?_) next
  have := store_sound hT hr.H h hq (hr.ev px) (hr.ev xx)
  refine ⟨?_, Nat.le_of_eq (aStore_len h).symm⟩
  unfold execOp
  rw [ho]
  exact this
/-- append(row, ..). -/
def aAppend (tab : Tab) (H : List AObj) (t : TypeId) (s x : AV) : Option (Prop × AV × List AObj × Option Nat) :=
  match tab t with
  | some i => match i.k with
    | .slice e => match tab e with
      | some ei => match srcOf H ei.sz x with
        | some (q, m, g) => match s with
          | .row id sz 0 n none => match nth H id with
            | some ob => match ob.st, Nat.beq sz ei.sz, Nat.beq ob.sz ei.sz, Nat.beq ob.T e, ob.pure, Nat.blt 0 ei.sz with
              | 0, true, true, true, true, true => some (q ∧ n ≤ ob.n ∧ (n + m) * ei.by_ ≤ 140737488355328 ∧ n + m ≤ 140737488355328, .row id sz 0 (n + m) none, setn (H.map (forgetObj id)) id { ob with n := n + m, f := appF n ob.f g, box := false }, some id)
              | _, _, _, _, _, _ => none
            | none => none
          | _ => none
        | none => none
      | none => none
    | _ => none
  | none => none
theorem al_append (hT : TabOk P tab) (hw : wantA l σ o = some true) {t : TypeId} {sx xx : Operand} (ho : o.op = .call { callee := .builtin .append, args := #[sx, xx], argTypes := #[t, t] }) {q : Prop} {y : AV} {H' : List AObj} {fg : Option Nat}
    (h : aAppend tab σ.H t (σ.ev sx) (σ.ev xx) = some (q, y, H', fg)) (hq : q) (next : AL P r l Q R ((σ.behind H' fg).put o.dst y)) : AL P r l Q (o :: R) σ := by
  refine al_mut hw (fun c hc => by rw [ho] at hc; cases hc) (fun B μ a w hr => ?_) next
  have hex : execOp a.eval o = (do pure (.value (← Builtin.append_ #[t, t] o.type #[a.eval sx, a.eval xx])) : Sem Next) := by
    unfold execOp
    rw [ho]
    simp [resolve, invoke, builtin]
  rw [hex]
  have hs := hr.ev sx
  have hx := hr.ev xx
  unfold aAppend at h
  split at h
  · rename_i i hi
    split at h
    · rename_i e hk
      split at h
      · rename_i ei he
        split at h
        · rename_i q' m g hsrc
          split at h
          · rename_i id sz n hse
            split at h
            · rename_i ob hob
              split at h
              · rename_i hst hb1 hb2 hb3 hpu hz
                injection h with h; injection h with e0 h; injection h with e1 h; injection h with e2 e3
                subst e0 e1 e2 e3
                obtain ⟨q1, q2, q3, q4⟩ := hq
                obtain rfl := beq_t hb1
                rw [Nat.blt_eq] at hz
                rw [hse] at hs
                obtain ⟨A, c, news, g1, g2, g3, g4, g5, g6⟩ := src_ok hr.H hsrc q1 hx
                rw [setn_eq]
                rw [nth_eq] at hob
                refine ⟨?_, by simp⟩
                exact append_row hT hr.H hi hk he hz hob hst (beq_t hb2) (beq_t hb3) hpu q2 hs g1 g2 g3 g4 g5 g6 (by unfold maxLen; omega) q3
              · cases h
            · cases h
          · cases h
        · cases h
      · cases h
    · cases h
  · cases h
theorem run_enter {f : FuncId} {fn : Func} {c : Code} (hf : P.funcs[f]? = some fn) (hname : (fn.name == "runtime.NumGoroutine") = false) (hb : fn.body = some c) (args : Array Value) (w : World) :
    (callFunc f args).run P w = .ok (.enter f args) w := by
  have h1 : fn.name ≠ "runtime.NumGoroutine" := by simpa using hname
  simp [callFunc, hf, h1, hb]
/-- A call of a Go function. -/
theorem al_call (hw : wantA l σ o = some true) {fo : Operand} {ao : List Operand} {ts : Array TypeId} (ho : o.op = .call { callee := .value fo, args := ao.toArray, argTypes := ts }) {f : FuncId} {fa ca : List AV} (hf : σ.ev fo = .fn (.func f) fa ca)
    {fn : Func} {c : Code} (hfn : P.funcs[f]? = some fn) (hnm : (fn.name == "runtime.NumGoroutine") = false) (hb : fn.body = some c) {K : AV → List AObj → List Nat → Prop} (h : ACall P f (fa ++ ao.map σ.ev ++ ca) σ.H K)
    (next : ∀ x H' fg, K x H' fg → AL P r l Q R (St.put ⟨σ.s.map (fgs (fgk σ.H.length fg)), H', σ.fg ++ fgk σ.nb.n fg, σ.nb⟩ o.dst x)) : AL P r l Q (o :: R) σ := by
  intro B μ a w hr
  unfold wpListIn
  rw [if_pos (wantA_ok hw hr)]
  refine ⟨fun f _ => fw_fn r f, ?_⟩
  rw [Oper.semAt_eq _ _ _ (fun c hc => by rw [ho] at hc; cases hc)]
  have hfv := hr.ev fo
  rw [hf] at hfv
  generalize hg : a.eval fo = fv at hfv
  cases hfv with
  | fn h1 h2 h3 h4 =>
    rename_i vs us
    have hargs : RVs (OO B.X σ.H μ) w μ (ao.map σ.ev) (ao.map a.eval) := ⟨by simp, fun j x v hx hv => by
      simp only [List.getElem?_map, Option.map_eq_some_iff] at hx hv
      obtain ⟨p, hp, rfl⟩ := hx
      obtain ⟨p', hp', rfl⟩ := hv
      rw [hp] at hp'; injection hp' with hp'; subst hp'
      exact hr.ev p⟩
    have hall := ((show RVs (OO B.X σ.H μ) w μ fa vs from ⟨h1, h2⟩).append hargs).append (show RVs (OO B.X σ.H μ) w μ ca us from ⟨h3, h4⟩)
    have hrun : (execOp a.eval o).run P w = .ok (.enter f (vs ++ ao.map a.eval ++ us).toArray) w := by
      unfold execOp
      rw [ho]
      simp only [resolve, hg, Deferred.ofValue, Sem.run_bind, Sem.run_pure, Result.andThen_ok, invoke, run_enter hfn hnm hb]
      simp
    rw [hrun]
    refine ⟨fun hd => by simp [fw, Fence.wide] at hd, ?_⟩
    have hcall := h w B.X μ _ hr.H hall
    have hcall : CallsIn (fw r) (0 - 1) P f (vs ++ ao.map a.eval ++ us).toArray w _ := callsIn_wide.2 hcall
    refine hcall.mono fun e w' he => ?_
    obtain ⟨v, x, H', fg, μ', rfl, hK, g1, g2, g3, g4, gl, g5⟩ := he
    refine next x H' fg hK B μ' _ w' ?_
    refine SRel.put (σ := ⟨σ.s.map (fgs (fgk σ.H.length fg)), H', σ.fg ++ fgk σ.nb.n fg, σ.nb⟩) ⟨by simpa using hr.size, fun t y u hy hu => ?_, g1, hr.df.step g3 g4 g1.lt, hr.chg.trans hr.ext g3, hr.ext.trans hr.chg.size g4, hr.nb, Nat.le_trans hr.le gl, fun k y u hk hy => ?_⟩ g2 o.dst
    · simp only [List.getElem?_map, Option.map_eq_some_iff] at hy
      obtain ⟨z, hz, rfl⟩ := hy
      exact (g5 σ.H.length z u (Nat.le_refl _) (by rw [upto_all hr.H.dom]; exact hr.slot t z u hz hu)).mono (fun _ _ h => h) (fun _ _ _ => rfl) _ (upto_le _ _)
    · have := g5 k _ u (Nat.le_trans hk hr.le) (hr.pres k y u hk hy)
      rw [fgk_append, fgk_fgk hk]
      simpa [fgs, List.foldl_append] using this
end
end Go.Proofs.YthcoccoanpmhgaaDoor
