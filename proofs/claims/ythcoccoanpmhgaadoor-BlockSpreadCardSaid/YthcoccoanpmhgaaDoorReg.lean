/- A region that draws its order, walked once, in the text's order: each operation is shown to do what it does in whatever world has come of those that it waits for. -/
import Derived.Orders
import Derived.Below
import Derived.Deep.Draws
namespace Go.Proofs.YthcoccoanpmhgaaDoor
open Go.RowKit
set_option linter.unusedVariables false
set_option linter.unusedSimpArgs false

/-- What one operation does, without a panic: a value and a world. -/
def StepOk (P : Program) (s : Sem Next) (w : World) (R : Value → World → Prop) : Prop :=
  match s.run P w with
  | .ok (.value v) w' => R v w'
  | .ok .skip w' => R undef w'
  | .ok (.enter f args) w' => Calls P f args w' fun e w'' => match e with | .returned v => R v w'' | _ => False
  | .ok (.row row args) w' => Rows P row args w' R
  | _ => False

theorem StepOk.wp {P : Program} {o : Oper} {a : Act} {w : World} {R : Value → World → Prop} {K : Act → World → Prop} {Q : Exit → Act → World → Prop}
    (h : StepOk P (execOp a.eval o) w R) (hk : ∀ v w', R v w' → K (a.put o.dst v) w') : o.wp P a w K Q := by
  unfold StepOk at h
  unfold Oper.wp
  generalize (execOp a.eval o).run P w = r at *
  cases r with
  | ok n w' =>
    cases n <;> simp only [Oper.upon] at h ⊢
    case value v => exact hk _ _ h
    case skip => exact hk _ _ h
    case enter f args => exact h.mono fun e w'' he => by cases e <;> first | exact hk _ _ he | exact he.elim
    case row row args => exact h.mono fun v w'' he => hk _ _ he
  | halt x w' => exact h.elim

/-- What an operation is shown to tell: G, in a world; ok, of the value alone, which something bears. -/
structure PG where
  G : Value → World → Prop
  ok : Value → Prop := fun _ => True
  imp : ∀ v w, G v w → ok v := by intros; trivial
  x0 : Value := undef
  hx0 : ok x0 := by trivial
abbrev Plan := Nat → Option PG
/-- Does k wait for j? -/
def anc (ops : Array Oper) (k j : Nat) : Bool := ((Region.before ops).getD k 0).testBit j

/-- The walk: what is left, in the text's order; a: the frame; kn: what the operations that have come up have told. -/
def wpS (P : Program) (E : World → World → Prop) (w0 : World) (ops : Array Oper) (plan : Plan) (F : Act → World → Prop) : List Nat → Act → List (Nat × (World → Prop)) → Prop
  | [], a, kn => ∀ w, E w0 w → (∀ p ∈ kn, p.2 w) → F a w
  | k :: rest, a, kn =>
    match ops[k]? with
    | none => False
    | some o =>
      if Region.wanted o (yielded ops a.tmps) = true then
        match plan k with
        | some G => (∀ w, E w0 w → (∀ p ∈ kn, anc ops k p.1 = true → p.2 w) → StepOk P (execOp a.eval o) w fun v w' => E w w' ∧ G.G v w') ∧ ∀ x, G.ok x → wpS P E w0 ops plan F rest (a.put o.dst x) ((k, G.G x) :: kn)
        | none => ∃ v, (∀ w, E w0 w → (∀ p ∈ kn, anc ops k p.1 = true → p.2 w) → (execOp a.eval o).run P w = .ok (.value v) w) ∧ wpS P E w0 ops plan F rest (a.put o.dst v) kn
      else wpS P E w0 ops plan F rest (a.put o.dst undef) kn

/-- Neither looks at what the other one writes, nor do they write the same. -/
def okPair (ops : Array Oper) (i j : Nat) : Bool :=
  match ops[i]?, ops[j]? with
  | some x, some y => anc ops i j || anc ops j i || x.apart ops y
  | _, _ => false
def okS (ops : Array Oper) (m : Nat) : Bool :=
  ((List.range ops.size).all fun i => (List.range i).all fun j => okPair ops j i && !anc ops j i) &&
  ((List.range ops.size).all fun i => !anc ops i i) &&
  (ops.toList.all fun o => match o.op with | .select .. => false | _ => true) &&
  ((List.range ops.size).all fun i => i < m || (List.range i).all fun j => anc ops i j) &&
  ((List.range ops.size).all fun i => match ops[i]? with | some o => o.after.all fun e => !Region.binds .any e || decide (e.on < i) | none => false) && decide (m ≤ ops.size)

section
variable {P : Program} {E : World → World → Prop} {w0 : World} {ops : Array Oper} {plan : Plan} {F : Act → World → Prop}

theorem wpS_congr : ∀ {R : List Nat} {a : Act} {kn kn' : List (Nat × (World → Prop))}, (∀ p, p ∈ kn ↔ p ∈ kn') → wpS P E w0 ops plan F R a kn → wpS P E w0 ops plan F R a kn'
  | [], a, kn, kn', hp, h => fun w hE hk => h w hE fun p hm => hk p ((hp p).1 hm)
  | k :: R, a, kn, kn', hp, h => by
    unfold wpS at h ⊢
    cases ho : ops[k]? with
    | none => rw [ho] at h; exact h
    | some o =>
      rw [ho] at h
      simp only at h ⊢
      split
      · rename_i hw
        rw [if_pos hw] at h
        cases hpl : plan k with
        | some G =>
          rw [hpl] at h
          exact ⟨fun w hE hk => h.1 w hE fun p hm => hk p ((hp p).1 hm), fun x hx => wpS_congr (fun p => by simp only [List.mem_cons, hp p]) (h.2 x hx)⟩
        | none =>
          rw [hpl] at h
          obtain ⟨v, h1, h2⟩ := h
          exact ⟨v, fun w hE hk => h1 w hE fun p hm => hk p ((hp p).1 hm), wpS_congr hp h2⟩
      · rename_i hw
        rw [if_neg hw] at h
        exact wpS_congr hp h

def noSel (o : Oper) : Prop := ∀ cs b, o.op ≠ .select cs b

/-- What operation i does at a frame and a world. -/
def StepAt (P : Program) (E : World → World → Prop) (w : World) (ops : Array Oper) (plan : Plan) (i : Nat) (o : Oper) (a : Act) (kn : List (Nat × (World → Prop))) (K : Value → List (Nat × (World → Prop)) → Prop) : Prop :=
  if Region.wanted o (yielded ops a.tmps) = true then
    match plan i with
    | some G => StepOk P (execOp a.eval o) w (fun v w' => E w w' ∧ G.G v w') ∧ ∀ x, G.ok x → K x ((i, G.G x) :: kn)
    | none => ∃ v, (execOp a.eval o).run P w = .ok (.value v) w ∧ K v kn
  else K undef kn

/-- i does not wait for j, nor j for i, and neither looks at the other's. -/
structure Free (ops : Array Oper) (oi : Oper) (i j : Nat) where
  oj : Oper
  at_ : ops[j]? = some oj
  ij : anc ops i j = false
  ji : anc ops j i = false
  ap : oj.apart ops oi = true
  ap' : oi.apart ops oj = true
  sel : noSel oj

theorem eq_of_run {P : Program} {s : Sem Next} {w : World} {v v' : Value} (h : s.run P w = .ok (.value v) w) (h' : s.run P w = .ok (.value v') w) : v = v' := by
  rw [h] at h'
  injection h' with h'
  injection h'

theorem wpS_pull {i : Nat} {oi : Oper} (hi : ops[i]? = some oi) (hsi : noSel oi) {w : World} (hE : E w0 w) (R2 : List Nat) : ∀ (R1 : List Nat) (a : Act) (kn : List (Nat × (World → Prop))),
    wpS P E w0 ops plan F (R1 ++ i :: R2) a kn → (∀ p ∈ kn, anc ops i p.1 = true → p.2 w) → (∀ j ∈ R1, Nonempty (Free ops oi i j)) →
    StepAt P E w ops plan i oi a kn fun v kn' => wpS P E w0 ops plan F (R1 ++ R2) (a.put oi.dst v) kn'
  | [], a, kn, h, hk, _ => by
    rw [List.nil_append, wpS, hi] at h
    unfold StepAt
    simp only at h
    split
    · rename_i hw
      rw [if_pos hw] at h
      cases hpl : plan i with
      | some G => rw [hpl] at h; exact ⟨h.1 w hE hk, h.2⟩
      | none => rw [hpl] at h; obtain ⟨v, h1, h2⟩ := h; exact ⟨v, h1 w hE hk, h2⟩
    · rename_i hw
      rw [if_neg hw] at h
      exact h
  | j :: R1, a, kn, h, hk, hf => by
    obtain ⟨oj, hj, hij, hji, hap, hap', hsj⟩ := hf j (by simp)
    have hf' : ∀ j ∈ R1, Nonempty (Free ops oi i j) := fun j hj => hf j (by simp [hj])
    obtain ⟨p1, p2, p3⟩ := Oper.apart_spec hap
    obtain ⟨q1, q2, q3⟩ := Oper.apart_spec hap'
    have ei : ∀ x, execOp (a.put oj.dst x).eval oi = execOp a.eval oi := fun x => execOp_put oi hsi a oj.dst x p1
    have wi : ∀ x, Region.wanted oi (yielded ops (a.put oj.dst x).tmps) = Region.wanted oi (yielded ops a.tmps) := fun x => wanted_put (ops := ops) oi a oj.dst x p1
    have ej : ∀ y, execOp (a.put oi.dst y).eval oj = execOp a.eval oj := fun y => execOp_put oj hsj a oi.dst y q1
    have wj : ∀ y, Region.wanted oj (yielded ops (a.put oi.dst y).tmps) = Region.wanted oj (yielded ops a.tmps) := fun y => wanted_put (ops := ops) oj a oi.dst y q1
    have cm : ∀ x y, (a.put oi.dst y).put oj.dst x = (a.put oj.dst x).put oi.dst y := fun x y => Act.put_comm a y x q2
    rw [List.cons_append, wpS, hj] at h
    simp only at h
    -- what j is shown to do, at the frame behind i
    have goal : ∀ (y : Value) (q : List (Nat × (World → Prop))), (∀ p ∈ q, p.1 = i) →
        (if Region.wanted oj (yielded ops a.tmps) = true then
          match plan j with
          | some G => (∀ w, E w0 w → (∀ p ∈ kn, anc ops j p.1 = true → p.2 w) → StepOk P (execOp a.eval oj) w fun v w' => E w w' ∧ G.G v w') ∧ ∀ x, G.ok x → wpS P E w0 ops plan F (R1 ++ R2) ((a.put oj.dst x).put oi.dst y) (q ++ (j, G.G x) :: kn)
          | none => ∃ v, (∀ w, E w0 w → (∀ p ∈ kn, anc ops j p.1 = true → p.2 w) → (execOp a.eval oj).run P w = .ok (.value v) w) ∧ wpS P E w0 ops plan F (R1 ++ R2) ((a.put oj.dst v).put oi.dst y) (q ++ kn)
        else wpS P E w0 ops plan F (R1 ++ R2) ((a.put oj.dst undef).put oi.dst y) (q ++ kn)) → wpS P E w0 ops plan F (j :: R1 ++ R2) (a.put oi.dst y) (q ++ kn) := by
      intro y q hq hh
      have hkn : ∀ w, (∀ p ∈ q ++ kn, anc ops j p.1 = true → p.2 w) → ∀ p ∈ kn, anc ops j p.1 = true → p.2 w := fun w hk p hm => hk p (by simp [hm])
      rw [List.cons_append, wpS, hj]
      simp only [wj, ej]
      split
      · rename_i hw
        rw [if_pos hw] at hh
        cases hpl : plan j with
        | some G =>
          rw [hpl] at hh
          exact ⟨fun w hE hk => hh.1 w hE (hkn w hk), fun x hx => by rw [cm]; exact wpS_congr (fun p => by simp only [List.mem_append, List.mem_cons]; constructor <;> (rintro (h | h | h) <;> simp [h])) (hh.2 x hx)⟩
        | none =>
          rw [hpl] at hh
          obtain ⟨v, h1, h2⟩ := hh
          exact ⟨v, fun w hE hk => h1 w hE (hkn w hk), by rw [cm]; exact h2⟩
      · rename_i hw
        rw [if_neg hw] at hh
        rw [cm]; exact hh
    unfold StepAt
    by_cases hwj : Region.wanted oj (yielded ops a.tmps) = true
    · rw [if_pos hwj] at h
      cases hpj : plan j with
      | some Gj =>
        rw [hpj] at h
        have ih := fun x (hx : Gj.ok x) => wpS_pull hi hsi hE R2 R1 (a.put oj.dst x) ((j, Gj.G x) :: kn) (h.2 x hx) (fun p hm ha => by
          rcases List.mem_cons.1 hm with rfl | hm
          · rw [hij] at ha; cases ha
          · exact hk p hm ha) hf'
        unfold StepAt at ih
        simp only [ei, wi] at ih
        split
        · rename_i hw
          simp only [if_pos hw] at ih
          cases hpi : plan i with
          | some G =>
            simp only [hpi] at ih
            refine ⟨(ih _ Gj.hx0).1, fun y hy => goal y [(i, G.G y)] (by simp) ?_⟩
            rw [if_pos hwj, hpj]
            exact ⟨h.1, fun x hx => (ih x hx).2 y hy⟩
          | none =>
            simp only [hpi] at ih
            obtain ⟨v, h1, _⟩ := ih _ Gj.hx0
            refine ⟨v, h1, goal v [] (by simp) ?_⟩
            rw [if_pos hwj, hpj]
            refine ⟨h.1, fun x hx => ?_⟩
            obtain ⟨v', h1', h2'⟩ := ih x hx
            rw [eq_of_run h1 h1']
            exact h2'
        · rename_i hw
          simp only [if_neg hw] at ih
          refine goal undef [] (by simp) ?_
          rw [if_pos hwj, hpj]
          exact ⟨h.1, fun x hx => ih x hx⟩
      | none =>
        rw [hpj] at h
        obtain ⟨vj, hj1, hj2⟩ := h
        have ih := wpS_pull hi hsi hE R2 R1 (a.put oj.dst vj) kn hj2 hk hf'
        unfold StepAt at ih
        simp only [ei, wi] at ih
        split
        · rename_i hw
          simp only [if_pos hw] at ih
          cases hpi : plan i with
          | some G =>
            simp only [hpi] at ih
            refine ⟨ih.1, fun y hy => goal y [(i, G.G y)] (by simp) ?_⟩
            rw [if_pos hwj, hpj]
            exact ⟨vj, hj1, ih.2 y hy⟩
          | none =>
            simp only [hpi] at ih
            obtain ⟨v, h1, h2⟩ := ih
            refine ⟨v, h1, goal v [] (by simp) ?_⟩
            rw [if_pos hwj, hpj]
            exact ⟨vj, hj1, h2⟩
        · rename_i hw
          simp only [if_neg hw] at ih
          refine goal undef [] (by simp) ?_
          rw [if_pos hwj, hpj]
          exact ⟨vj, hj1, ih⟩
    · rw [if_neg hwj] at h
      have ih := wpS_pull hi hsi hE R2 R1 (a.put oj.dst undef) kn h hk hf'
      unfold StepAt at ih
      simp only [ei, wi] at ih
      split
      · rename_i hw
        simp only [if_pos hw] at ih
        cases hpi : plan i with
        | some G =>
          simp only [hpi] at ih
          refine ⟨ih.1, fun y hy => goal y [(i, G.G y)] (by simp) ?_⟩
          rw [if_neg hwj]
          exact ih.2 y hy
        | none =>
          simp only [hpi] at ih
          obtain ⟨v, h1, h2⟩ := ih
          refine ⟨v, h1, goal v [] (by simp) ?_⟩
          rw [if_neg hwj]
          exact h2
      · rename_i hw
        simp only [if_neg hw] at ih
        refine goal undef [] (by simp) ?_
        rw [if_neg hwj]
        exact ih
end

/-! what 'before' tells -/
def befOf (acc : Array Nat) (o : Oper) : Nat := o.after.foldl (fun s e => if Region.binds .any e then s ||| 2 ^ e.on ||| acc.getD e.on 0 else s) 0
def bef (l : List Oper) : Array Nat := l.foldl (fun acc o => acc.push (befOf acc o)) #[]
theorem before_eq (ops : Array Oper) : Region.before ops = bef ops.toList := by
  unfold Region.before bef befOf
  rw [← Array.foldl_toList]
theorem bef_fold : ∀ (l : List Oper) (acc : Array Nat),
    (l.foldl (fun acc o => acc.push (befOf acc o)) acc).size = acc.size + l.length ∧
    (∀ k, k < acc.size → (l.foldl (fun acc o => acc.push (befOf acc o)) acc)[k]? = acc[k]?) ∧
    (∀ i o, l[i]? = some o → ∃ acc' : Array Nat, acc'.size = acc.size + i ∧ (∀ k, k < acc'.size → (l.foldl (fun acc o => acc.push (befOf acc o)) acc)[k]? = acc'[k]?) ∧
      (l.foldl (fun acc o => acc.push (befOf acc o)) acc)[acc.size + i]? = some (befOf acc' o))
  | [], acc => ⟨rfl, fun _ _ => rfl, fun i o h => by simp at h⟩
  | x :: l, acc => by
    obtain ⟨h1, h2, h3⟩ := bef_fold l (acc.push (befOf acc x))
    simp only [List.foldl_cons]
    refine ⟨by rw [h1]; simp; omega, fun k hk => by rw [h2 k (by simp; omega), Array.getElem?_push, if_neg (by omega)], fun i o hi => ?_⟩
    cases i with
    | zero =>
      simp at hi
      subst hi
      exact ⟨acc, rfl, fun k hk => by rw [h2 k (by simp; omega), Array.getElem?_push, if_neg (by omega)], by rw [Nat.add_zero, h2 _ (by simp), Array.getElem?_push, if_pos rfl]⟩
    | succ i =>
      obtain ⟨acc', g1, g2, g3⟩ := h3 i o (by simpa using hi)
      exact ⟨acc', by rw [g1]; simp; omega, g2, by rw [← g3]; congr 1; simp; omega⟩
theorem fold_bits (acc : Array Nat) (j : Nat) : ∀ (l : List Edge) (s : Nat), (l.foldl (fun s e => if Region.binds .any e then s ||| 2 ^ e.on ||| acc.getD e.on 0 else s) s).testBit j = true ↔
    s.testBit j = true ∨ ∃ e ∈ l, Region.binds .any e = true ∧ (e.on = j ∨ (acc.getD e.on 0).testBit j = true)
  | [], s => by simp
  | e :: l, s => by
    rw [List.foldl_cons, fold_bits acc j l]
    by_cases hb : Region.binds .any e = true
    · rw [if_pos hb, Nat.testBit_or, Nat.testBit_or, Nat.testBit_two_pow]
      simp only [Bool.or_eq_true, decide_eq_true_eq, List.mem_cons, exists_eq_or_imp, hb, true_and]
      constructor
      · rintro ((h | h) | h)
        · rcases h with h | h
          · exact .inl h
          · exact .inr (.inl (.inl h))
        · exact .inr (.inl (.inr h))
        · exact .inr (.inr h)
      · rintro (h | (h | h) | h)
        · exact .inl (.inl (.inl h))
        · exact .inl (.inl (.inr h))
        · exact .inl (.inr h)
        · exact .inr h
    · rw [if_neg hb]
      simp only [List.mem_cons, exists_eq_or_imp, hb, false_and, false_or, Bool.false_eq_true]
theorem befOf_bits (acc : Array Nat) (o : Oper) (j : Nat) : (befOf acc o).testBit j = true ↔ ∃ e ∈ o.after, Region.binds .any e = true ∧ (e.on = j ∨ (acc.getD e.on 0).testBit j = true) := by
  unfold befOf
  rw [← Array.foldl_toList, fold_bits]
  simp only [Nat.zero_testBit, Bool.false_eq_true, false_or, Array.mem_toList_iff]
theorem anc_iff {ops : Array Oper} {i : Nat} {o : Oper} (hi : ops[i]? = some o) (hlt : ∀ e ∈ o.after, Region.binds .any e = true → e.on < i) (j : Nat) :
    anc ops i j = true ↔ ∃ e ∈ o.after, Region.binds .any e = true ∧ (e.on = j ∨ anc ops e.on j = true) := by
  obtain ⟨_, _, h3⟩ := bef_fold ops.toList #[]
  obtain ⟨acc', g1, g2, g3⟩ := h3 i o (by simpa using hi)
  have hb : Region.before ops = ops.toList.foldl (fun acc o => acc.push (befOf acc o)) #[] := before_eq ops
  rw [← hb] at g2 g3
  simp only [List.size_toArray, List.length_nil, Nat.zero_add] at g1 g3
  have key : ∀ k, anc ops k j = (((Region.before ops)[k]?).getD 0).testBit j := fun k => by unfold anc; rw [Array.getD_eq_getD_getElem?]
  rw [key i, g3, Option.getD_some, befOf_bits]
  constructor
  · rintro ⟨e, he, hbi, h⟩
    refine ⟨e, he, hbi, h.imp id fun h => ?_⟩
    have := hlt e he hbi
    rw [key, g2 _ (by omega), ← Array.getD_eq_getD_getElem?]
    exact h
  · rintro ⟨e, he, hbi, h⟩
    refine ⟨e, he, hbi, h.imp id fun h => ?_⟩
    have := hlt e he hbi
    rw [key, g2 _ (by omega), ← Array.getD_eq_getD_getElem?] at h
    exact h

structure OkS (ops : Array Oper) (m : Nat) : Prop where
  lt : ∀ (i : Nat) (o : Oper), ops[i]? = some o → ∀ e ∈ o.after, Region.binds .any e = true → e.on < i
  free : ∀ (i j : Nat) (oi oj : Oper), ops[i]? = some oi → ops[j]? = some oj → j < i → anc ops j i = false ∧ (anc ops i j = true ∨ oj.apart ops oi = true)
  sel : ∀ (i : Nat) (o : Oper), ops[i]? = some o → noSel o
  tail : ∀ (i j : Nat), m ≤ i → i < ops.size → j < i → anc ops i j = true
  le : m ≤ ops.size
theorem okS_spec {ops : Array Oper} {m : Nat} (h : okS ops m = true) : OkS ops m := by
  unfold okS at h
  simp only [Bool.and_eq_true, List.all_eq_true, List.mem_range, decide_eq_true_eq] at h
  obtain ⟨⟨⟨⟨⟨h1, h2⟩, h3⟩, h4⟩, h5⟩, h6⟩ := h
  refine ⟨fun i o ho e he hb => ?_, fun i j oi oj hi hj hlt => ?_, fun i o ho cs b hop => ?_, fun i j hm hi hj => ?_, h6⟩
  · have := h5 i (Array.getElem?_eq_some_iff.1 ho).1
    rw [ho] at this
    simp only [Array.all_eq_true_iff_forall_mem, Bool.or_eq_true, Bool.not_eq_true', decide_eq_true_eq] at this
    exact (this e he).resolve_left (by rw [hb]; simp)
  · obtain ⟨h, hn⟩ := h1 i (Array.getElem?_eq_some_iff.1 hi).1 j hlt
    have hn : anc ops j i = false := by simpa using hn
    refine ⟨hn, ?_⟩
    unfold okPair at h
    rw [hj, hi] at h
    simp only [Bool.or_eq_true, hn, Bool.false_eq_true, false_or] at h
    exact h
  · have := h3 o (by rw [Array.mem_toList_iff]; exact Array.mem_of_getElem? ho)
    rw [hop] at this
    cases this
  · have := h4 i hi
    simp only [Bool.or_eq_true, decide_eq_true_eq, List.all_eq_true, List.mem_range] at this
    exact this.resolve_left (by omega) j hj
theorem apart_symm {ops : Array Oper} {x y : Oper} (h : x.apart ops y = true) : y.apart ops x = true := by
  unfold Oper.apart at *
  cases hx : x.dst <;> cases hy : y.dst <;> simp_all
  exact fun e => h.1.2 e.symm

section
variable {P : Program} {Q : Exit → Act → World → Prop} {ops : Array Oper} {m : Nat}
theorem any_of_tail (ok : OkS ops m) : ∀ (fuel k : Nat) (listed : Array Bool) (a : Act) (w : World), listed.size = ops.size → (∀ j, listed.getD j false = decide (j < k)) → m ≤ k → k ≤ ops.size → ops.size - k ≤ fuel →
    wpList P ops Q (ops.toList.drop k) a w → wpAny P .any ops Q fuel listed a w := by
  intro fuel
  induction fuel with
  | zero =>
    intro k listed a w hs hl hm hk hf h
    have : k = ops.size := by omega
    subst this
    rw [List.drop_eq_nil_of_le (by simp)] at h
    refine ⟨?_, h⟩
    rw [List.eq_nil_iff_forall_not_mem]
    intro i hi
    obtain ⟨h0, o, ho, _⟩ := mem_ready.1 hi
    have hlt := (Array.getElem?_eq_some_iff.1 ho).1
    have := hl i
    rw [Array.getD_eq_getD_getElem?, Array.getElem?_eq_getElem (by omega)] at h0 this
    simp only [Option.getD_some] at h0 this
    rw [h0] at this
    simp [hlt] at this
  | succ fuel ih =>
    intro k listed a w hs hl hm hk hf h
    have hgd : ∀ i, i < ops.size → listed.getD i true = decide (i < k) := fun i hi => by
      have := hl i
      rw [Array.getD_eq_getD_getElem?, Array.getElem?_eq_getElem (by omega)] at this ⊢
      exact this
    have only : ∀ i, i ∈ Region.ready .any ops listed → i = k := by
      intro i hi
      obtain ⟨h0, o, ho, ha⟩ := mem_ready.1 hi
      have hlt := (Array.getElem?_eq_some_iff.1 ho).1
      rw [hgd i hlt] at h0
      have h0 : k ≤ i := by simpa using h0
      rcases Nat.lt_or_ge k i with h1 | h1
      · exfalso
        obtain ⟨e, he, hb, hh⟩ := (anc_iff ho (ok.lt i o ho) k).1 (ok.tail i k (by omega) hlt h1)
        have h2 := ha e he hb
        rw [hl] at h2
        have h2 : e.on < k := by simpa using h2
        rcases hh with hh | hh
        · omega
        · cases hoe : ops[e.on]? with
          | none => have := ok.lt i o ho e he hb; simp at hoe; omega
          | some oe =>
            cases hok : ops[k]? with
            | none => simp at hok; omega
            | some okk =>
              rw [(ok.free k e.on okk oe hok hoe h2).1] at hh
              cases hh
      · omega
    refine ⟨fun hr => ?_, fun i hi => ?_⟩
    · have : k = ops.size := by
        rcases Nat.lt_or_ge k ops.size with h1 | h1
        · exfalso
          have : k ∈ Region.ready .any ops listed := by
            rw [mem_ready]
            refine ⟨by rw [hgd k h1]; simp, ops[k], Array.getElem?_eq_getElem h1, fun e he hb => ?_⟩
            rw [hl]
            simpa using ok.lt k _ (Array.getElem?_eq_getElem h1) e he hb
          rw [hr] at this
          cases this
        · omega
      subst this
      rw [List.drop_eq_nil_of_le (by simp)] at h
      exact h
    · obtain rfl := only i hi
      obtain ⟨_, o, ho, _⟩ := mem_ready.1 hi
      have hlt := (Array.getElem?_eq_some_iff.1 ho).1
      have hd : ops.toList.drop i = o :: ops.toList.drop (i + 1) := by
        rw [List.drop_eq_getElem_cons (by simpa using hlt)]
        congr 1
        have := (Array.getElem?_eq_some_iff.1 ho).2
        simpa using this
      rw [hd] at h
      have h2 : wpOp P ops Q i (wpList P ops Q (ops.toList.drop (i + 1))) a w := by
        unfold wpOp
        rw [ho]
        unfold wpList at h
        exact h
      refine wpOp_mono (fun a' w' h' => ih (i + 1) _ a' w' (by simpa using hs) (fun j => ?_) (by omega) (by omega) (by omega) h') h2
      by_cases hj : i = j
      · subst hj
        rw [Array.getD_eq_getD_getElem?, Array.getElem?_setIfInBounds_self]
        rw [if_pos (by omega)]; simp
      · rw [getD_set_ne _ hj, hl]
        simp only [decide_eq_decide]
        omega
end

section
variable {P : Program} {Q : Exit → Act → World → Prop} {ops : Array Oper} {m : Nat} {E : World → World → Prop} {w0 : World} {plan : Plan}
def Mono (E : World → World → Prop) (G : World → Prop) : Prop := ∀ w w', E w w' → G w → G w'

theorem filter_pull {R1 R2 : List Nat} {i m : Nat} {p : Nat → Bool} (h : (List.range m).filter p = R1 ++ i :: R2) : (List.range m).filter (fun j => (j != i) && p j) = R1 ++ R2 := by
  have hn : ((List.range m).filter p).Nodup := List.Pairwise.filter _ (List.nodup_range)
  rw [← List.filter_filter, h]
  rw [h, List.nodup_append] at hn
  obtain ⟨h1, h2, h3⟩ := hn
  rw [List.nodup_cons] at h2
  rw [List.filter_append, List.filter_cons, if_neg (by simp)]
  congr 1
  · rw [List.filter_eq_self]; intro x hx; simpa using h3 x hx i (by simp)
  · rw [List.filter_eq_self]; intro x hx; simp; rintro rfl; exact h2.1 hx
theorem getD_true_false {listed : Array Bool} {j : Nat} (h : j < listed.size) : listed.getD j true = listed.getD j false := by
  simp [Array.getD_eq_getD_getElem?, h]

theorem any_of_S (ok : OkS ops m) (hrf : ∀ w, E w w) (htr : ∀ a b c, E a b → E b c → E a c) (hmono : ∀ (i : Nat) (G : PG), plan i = some G → ∀ v, Mono E (G.G v)) : ∀ (fuel : Nat) (listed : Array Bool) (a : Act) (w : World) (kn : List (Nat × (World → Prop))),
    listed.size = ops.size → (∀ i, listed.getD i false = true → ∀ j, anc ops i j = true → listed.getD j false = true) → (∀ j, m ≤ j → listed.getD j false = false) →
    ((List.range m).filter fun j => !listed.getD j true).length + (ops.size - m) ≤ fuel → E w0 w → (∀ p ∈ kn, p.2 w) → (∀ p ∈ kn, Mono E p.2) →
    wpS P E w0 ops plan (fun a w => wpList P ops Q (ops.toList.drop m) a w) ((List.range m).filter fun j => !listed.getD j true) a kn → wpAny P .any ops Q fuel listed a w := by
  intro fuel
  induction fuel with
  | zero =>
    intro listed a w kn hs hcl htl hf hE hk hmk h
    have hR : (List.range m).filter (fun j => !listed.getD j true) = [] := List.eq_nil_of_length_eq_zero (by omega)
    rw [hR] at h
    refine any_of_tail ok 0 m listed a w hs (fun j => ?_) (Nat.le_refl _) ok.le (by omega) (h w hE hk)
    by_cases hj : j < m
    · have := List.filter_eq_nil_iff.1 hR j (List.mem_range.2 hj)
      rw [← getD_true_false (by have := ok.le; omega)]
      simpa [hj] using this
    · rw [htl j (by omega)]; simp [hj]
  | succ fuel ih =>
    intro listed a w kn hs hcl htl hf hE hk hmk h
    by_cases hR : (List.range m).filter (fun j => !listed.getD j true) = []
    · rw [hR] at h hf
      refine any_of_tail ok (fuel + 1) m listed a w hs (fun j => ?_) (Nat.le_refl _) ok.le (by simpa using hf) (h w hE hk)
      by_cases hj : j < m
      · have := List.filter_eq_nil_iff.1 hR j (List.mem_range.2 hj)
        rw [← getD_true_false (by have := ok.le; omega)]
        simpa [hj] using this
      · rw [htl j (by omega)]; simp [hj]
    have hle := ok.le
    have hpw : ((List.range m).filter fun j => !listed.getD j true).Pairwise (· < ·) := List.Pairwise.filter _ List.pairwise_lt_range
    have hmem : ∀ j, j ∈ (List.range m).filter (fun j => !listed.getD j true) ↔ j < m ∧ listed.getD j true = false := fun j => by simp
    have hanc : ∀ i, i ∈ Region.ready .any ops listed → ∀ j, anc ops i j = true → listed.getD j false = true := by
      intro i hi j hj
      obtain ⟨_, o, ho, ha⟩ := mem_ready.1 hi
      obtain ⟨e, he, hb, hh⟩ := (anc_iff ho (ok.lt i o ho) j).1 hj
      rcases hh with rfl | hh
      · exact ha e he hb
      · exact hcl _ (ha e he hb) j hh
    refine ⟨fun hr => ?_, fun i hi => ?_⟩
    · exfalso
      obtain ⟨i, R', hRe⟩ : ∃ i R', (List.range m).filter (fun j => !listed.getD j true) = i :: R' := by
        cases hc : (List.range m).filter (fun j => !listed.getD j true) with
        | nil => exact absurd hc hR
        | cons i R' => exact ⟨i, R', rfl⟩
      have him := (hmem i).1 (by rw [hRe]; simp)
      have hlow : ∀ j, j < i → listed.getD j false = true := by
        intro j hj
        rw [← getD_true_false (by omega)]
        cases hc : listed.getD j true with
        | true => rfl
        | false =>
          have : j ∈ i :: R' := by rw [← hRe]; exact (hmem j).2 ⟨by omega, hc⟩
          rw [hRe, List.pairwise_cons] at hpw
          rcases List.mem_cons.1 this with h1 | h1
          · omega
          · have := hpw.1 j h1; omega
      have : i ∈ Region.ready .any ops listed := by
        rw [mem_ready]
        exact ⟨him.2, ops[i]'(by omega), Array.getElem?_eq_getElem (by omega), fun e he hb => hlow _ (ok.lt i _ (Array.getElem?_eq_getElem (by omega)) e he hb)⟩
      rw [hr] at this
      cases this
    · obtain ⟨h0, o, ho, _⟩ := mem_ready.1 hi
      have hlt := (Array.getElem?_eq_some_iff.1 ho).1
      have him : i < m := by
        rcases Nat.lt_or_ge i m with h1 | h1
        · exact h1
        · exfalso
          obtain ⟨r, hr⟩ : ∃ r, r ∈ (List.range m).filter (fun j => !listed.getD j true) := by
            cases hc : (List.range m).filter (fun j => !listed.getD j true) with
            | nil => exact absurd hc hR
            | cons r R' => exact ⟨r, by simp⟩
          have hr := (hmem r).1 hr
          have := hanc i hi r (ok.tail i r h1 hlt (by omega))
          rw [← getD_true_false (by omega), hr.2] at this
          cases this
      obtain ⟨R1, R2, hsp⟩ := List.append_of_mem ((hmem i).2 ⟨him, h0⟩)
      rw [hsp] at h
      have hfree : ∀ j ∈ R1, Nonempty (Free ops o i j) := by
        intro j hj
        have hjm := (hmem j).1 (by rw [hsp]; simp [hj])
        have hji : j < i := by
          rw [hsp, List.pairwise_append] at hpw
          exact hpw.2.2 j hj i (by simp)
        have hoj : ops[j]? = some (ops[j]'(by omega)) := Array.getElem?_eq_getElem (by omega)
        obtain ⟨g1, g2⟩ := ok.free i j o _ ho hoj hji
        have g3 : anc ops i j = false := by
          cases hc : anc ops i j with
          | false => rfl
          | true =>
            have := hanc i hi j hc
            rw [← getD_true_false (by omega), hjm.2] at this
            cases this
        have g4 := g2.resolve_left (by rw [g3]; simp)
        exact ⟨⟨_, hoj, g3, g1, g4, apart_symm g4, ok.sel j _ hoj⟩⟩
      have hst := wpS_pull ho (ok.sel i o ho) hE R2 R1 a kn h (fun p hp _ => hk p hp) hfree
      have hnext : ∀ (a' : Act) (w' : World) (kn' : List (Nat × (World → Prop))), E w w' → (∀ p ∈ kn', p.2 w') → (∀ p ∈ kn', Mono E p.2) →
          wpS P E w0 ops plan (fun a w => wpList P ops Q (ops.toList.drop m) a w) (R1 ++ R2) a' kn' → wpAny P .any ops Q fuel (listed.setIfInBounds i true) a' w' := by
        intro a' w' kn' hE' hk' hm' h'
        have hfil : (List.range m).filter (fun j => !(listed.setIfInBounds i true).getD j true) = R1 ++ R2 := by
          rw [← filter_pull hsp]
          congr 1
          funext j
          by_cases hj : i = j
          · subst hj
            rw [Array.getD_eq_getD_getElem?, Array.getElem?_setIfInBounds_self, if_pos (by omega)]; simp
          · rw [getD_set_ne _ hj]
            have : (j != i) = true := by simp; omega
            rw [this, Bool.true_and]
        refine ih _ a' w' kn' (by simpa using hs) ?_ ?_ ?_ (htr _ _ _ hE hE') hk' hm' (by rw [hfil]; exact h')
        · intro k hk1 j hj
          by_cases hkj : i = j
          · subst hkj
            rw [Array.getD_eq_getD_getElem?, Array.getElem?_setIfInBounds_self, if_pos (by omega)]; rfl
          · rw [getD_set_ne _ hkj]
            by_cases hki : i = k
            · subst hki; exact hanc i hi j hj
            · rw [getD_set_ne _ hki] at hk1; exact hcl k hk1 j hj
        · intro j hj
          rw [getD_set_ne _ (by omega)]
          exact htl j hj
        · rw [hfil]
          have : ((List.range m).filter fun j => !listed.getD j true).length = (R1 ++ R2).length + 1 := by rw [hsp]; simp; omega
          omega
      unfold StepAt at hst
      unfold wpOp
      rw [ho]
      simp only
      split
      · rename_i hw
        rw [if_pos hw] at hst
        refine .inl ?_
        cases hpl : plan i with
        | some G =>
          rw [hpl] at hst
          refine hst.1.wp fun v w' hh => hnext _ _ _ hh.1 ?_ ?_ (hst.2 v (G.imp _ _ hh.2))
          · intro p hp
            rcases List.mem_cons.1 hp with rfl | hp
            · exact hh.2
            · exact hmk p hp w w' hh.1 (hk p hp)
          · intro p hp
            rcases List.mem_cons.1 hp with rfl | hp
            · exact hmono i G hpl v
            · exact hmk p hp
        | none =>
          rw [hpl] at hst
          obtain ⟨v, h1, h2⟩ := hst
          unfold Oper.wp
          rw [h1]
          exact hnext _ _ _ (hrf w) hk hmk h2
      · rename_i hw
        rw [if_neg hw] at hst
        exact hnext _ _ _ (hrf w) hk hmk hst
/-- A REGION THAT DRAWS ITS ORDER: the first m operations by the walk, whatever is behind them in the text's order. -/
theorem wp_region_S {id : Nat} {a : Act} {w : World} (m : Nat) (plan : Plan) (E : World → World → Prop) (hm : P.follows .mixedOrders = true) (hok : okS ops m = true)
    (hrf : ∀ w, E w w) (htr : ∀ a b c, E a b → E b c → E a c) (hmono : ∀ (i : Nat) (G : PG), plan i = some G → ∀ v, Mono E (G.G v))
    (hdr : E w w.drew) (h : wpS P E w ops plan (fun a w => wpList P ops Q (ops.toList.drop m) a w) (List.range m) a []) : (Code.region id ops true).wp P Q a w := by
  have ok := okS_spec hok
  refine wp_region_any hm ?_
  have hfil : (List.range m).filter (fun j => !(Array.replicate ops.size false).getD j true) = List.range m := by
    rw [List.filter_eq_self]
    intro j hj
    have := List.mem_range.1 hj
    have := ok.le
    simp [Array.getD_eq_getD_getElem?, Array.getElem?_replicate, show j < ops.size by omega]
  have hno : ∀ j, (Array.replicate ops.size false).getD j false = false := fun j => by
    simp only [Array.getD_eq_getD_getElem?, Array.getElem?_replicate]
    split <;> rfl
  refine any_of_S ok hrf htr hmono ops.size _ a w.drew [] (by simp) (fun i hi => by rw [hno] at hi; cases hi) (fun j _ => hno j) ?_ hdr (by simp) (by simp) (by rw [hfil]; exact h)
  rw [hfil, List.length_range]
  have := ok.le
  omega
def Bel (w w' : World) : Prop := Below w.heap.size w w'
theorem Bel.refl (w : World) : Bel w w := Below.refl _ w
theorem Bel.trans (a b c : World) (h : Bel a b) (h' : Bel b c) : Bel a c := Below.trans h (Below.mono h' h.size)
theorem wp_region_B {id : Nat} {l : List Oper} {a : Act} {w : World} (m : Nat) (plan : Plan) (hm : P.follows .mixedOrders = true) (hok : okS l.toArray m = true)
    (hmono : ∀ (i : Nat) (G : PG), plan i = some G → ∀ v, Mono Bel (G.G v))
    (h : wpS P Bel w l.toArray plan (fun a w => wpList P l.toArray Q (l.drop m) a w) (List.range m) a []) : (Code.region id l.toArray true).wp P Q a w :=
  wp_region_S m plan Bel hm hok Bel.refl Bel.trans hmono ⟨rfl, rfl, rfl, Nat.le_refl _, fun _ _ => rfl⟩ (by simpa using h)
/-- What a call is shown to tell, which stays told. -/
structure MG where
  pg : PG
  mono : ∀ v, Mono Bel (pg.G v)
def MG.val (x : Value) : MG := ⟨{ G := fun v _ => v = x, ok := fun v => v = x, imp := fun _ _ h => h, x0 := x, hx0 := rfl }, fun _ _ _ _ h => h⟩
def lookG : List (Nat × MG) → Nat → Option PG
  | [], _ => none
  | p :: r, k => if p.1 = k then some p.2.pg else lookG r k
theorem lookG_mono : ∀ (l : List (Nat × MG)) (k : Nat) (G : PG), lookG l k = some G → ∀ v, Mono Bel (G.G v)
  | [], _, _, h, _ => by cases h
  | p :: r, k, G, h, v => by
    unfold lookG at h
    split at h
    · injection h with h; subst h; exact p.2.mono v
    · exact lookG_mono r k G h v
/-- The walk over the operations as they are written. -/
def wpL (P : Program) (w0 : World) (ops : Array Oper) (plan : Plan) (F : Act → World → Prop) : Nat → List Oper → Act → List (Nat × (World → Prop)) → Prop
  | _, [], a, kn => ∀ w, Bel w0 w → (∀ p ∈ kn, p.2 w) → F a w
  | k, o :: rest, a, kn =>
    if Region.wanted o (yielded ops a.tmps) = true then
      match plan k with
      | some G => (∀ w, Bel w0 w → (∀ p ∈ kn, anc ops k p.1 = true → p.2 w) → StepOk P (execOp a.eval o) w fun v w' => Bel w w' ∧ G.G v w') ∧ ∀ x, G.ok x → wpL P w0 ops plan F (k + 1) rest (a.put o.dst x) ((k, G.G x) :: kn)
      | none => ∃ v, (∀ w, Bel w0 w → (∀ p ∈ kn, anc ops k p.1 = true → p.2 w) → (execOp a.eval o).run P w = .ok (.value v) w) ∧ wpL P w0 ops plan F (k + 1) rest (a.put o.dst v) kn
    else wpL P w0 ops plan F (k + 1) rest (a.put o.dst undef) kn
theorem wpS_of_L {w0 : World} {ops : Array Oper} {plan : Plan} {F : Act → World → Prop} : ∀ (r : List Oper) (k : Nat) (a : Act) (kn : List (Nat × (World → Prop))), (∀ j o, r[j]? = some o → ops[k + j]? = some o) → wpL P w0 ops plan F k r a kn →
    wpS P Bel w0 ops plan F (List.range' k r.length) a kn
  | [], k, a, kn, _, h => h
  | o :: r, k, a, kn, hr, h => by
    have ih := fun a kn => wpS_of_L (w0 := w0) (plan := plan) (F := F) r (k + 1) a kn (fun j o' hj => by have := hr (j + 1) o' (by simpa using hj); rw [← this]; congr 1; omega)
    rw [List.length_cons, List.range'_succ, wpS, show ops[k]? = some o from hr 0 o rfl]
    unfold wpL at h
    simp only
    split
    · rename_i hw
      rw [if_pos hw] at h
      cases hp : plan k with
      | some G => rw [hp] at h; exact ⟨h.1, fun x hx => ih _ _ (h.2 x hx)⟩
      | none => rw [hp] at h; obtain ⟨v, h1, h2⟩ := h; exact ⟨v, h1, ih _ _ h2⟩
    · rename_i hw
      rw [if_neg hw] at h
      exact ih _ _ h
/-- The rule, with the operations and what is behind them under names: l1 by the walk, l2 in the text's order. -/
theorem wp_region_N {id : Nat} {l : List Oper} {a : Act} {w : World} (l1 l2 : List Oper) (hl : l = l1 ++ l2) (plan : List (Nat × MG)) (hm : P.follows .mixedOrders = true) (hok : okS l.toArray l1.length = true)
    (h : ∀ (ops : Array Oper) (F : Act → World → Prop) (w0 : World) (pl : Plan), Hid (ops = l.toArray) → Hid (pl = lookG plan) → Hid (w0 = w) → Hid (∀ a w, wpList P l.toArray Q l2 a w → F a w) → wpL P w0 ops pl F 0 l1 a []) : (Code.region id l.toArray true).wp P Q a w := by
  refine wp_region_B l1.length (lookG plan) hm hok (fun i G hG v => lookG_mono _ _ _ hG v) ?_
  have := wpS_of_L l1 0 a [] (fun j o hj => by
    subst hl
    have hlt := (List.getElem?_eq_some_iff.1 hj).1
    simp only [Nat.zero_add, List.getElem?_toArray]
    rw [List.getElem?_append_left hlt]; exact hj) (h l.toArray (fun a w => wpList P l.toArray Q l2 a w) w (lookG plan) rfl rfl rfl fun _ _ h => h)
  rw [List.range_eq_range']
  subst hl
  simpa using this
/-- The first k by the walk, the others in the text's order. -/
theorem wp_region_T {id : Nat} {l : List Oper} {a : Act} {w : World} (k : Nat) (plan : List (Nat × MG)) (hm : P.follows .mixedOrders = true) (hok : okS l.toArray (l.take k).length = true)
    (h : ∀ (ops : Array Oper) (F : Act → World → Prop) (w0 : World) (pl : Plan), Hid (ops = l.toArray) → Hid (pl = lookG plan) → Hid (w0 = w) → Hid (∀ a w, wpList P l.toArray Q (l.drop k) a w → F a w) → wpL P w0 ops pl F 0 (l.take k) a []) : (Code.region id l.toArray true).wp P Q a w :=
  wp_region_N (l.take k) (l.drop k) (List.take_append_drop k l).symm plan hm hok h
theorem wp_region_A {id : Nat} {l : List Oper} {a : Act} {w : World} (plan : List (Nat × MG)) (hm : P.follows .mixedOrders = true) (hok : okS l.toArray l.length = true)
    (h : ∀ (ops : Array Oper) (F : Act → World → Prop) (w0 : World) (pl : Plan), Hid (ops = l.toArray) → Hid (pl = lookG plan) → Hid (w0 = w) → Hid (∀ a w, Q .normal a w → F a w) → wpL P w0 ops pl F 0 l a []) : (Code.region id l.toArray true).wp P Q a w :=
  wp_region_N l [] (by simp) plan hm hok fun ops F w0 pl h1 h2 h3 h4 => h ops F w0 pl h1 h2 h3 h4
end
/-! the moves of the walk -/
section
variable {P : Program} {w0 : World} {ops : Array Oper} {plan : Plan} {F : Act → World → Prop} {k : Nat} {R : List Oper} {a : Act} {kn : List (Nat × (World → Prop))} {o : Oper}
/-- An operation that reckons: its value, in whatever world. -/
theorem wpL_pure (hw : Region.wanted o (yielded ops a.tmps) = true) (hp : plan k = none) (v : Value)
    (h1 : ∀ w, Bel w0 w → (∀ p ∈ kn, anc ops k p.1 = true → p.2 w) → (execOp a.eval o).run P w = .ok (.value v) w) (h2 : wpL P w0 ops plan F (k + 1) R (a.put o.dst v) kn) : wpL P w0 ops plan F k (o :: R) a kn := by
  rw [wpL, if_pos hw, hp]
  exact ⟨v, h1, h2⟩
/-- An operation that tells something. -/
theorem wpL_fact (hw : Region.wanted o (yielded ops a.tmps) = true) {G : PG} (hp : plan k = some G)
    (h1 : ∀ w, Bel w0 w → (∀ p ∈ kn, anc ops k p.1 = true → p.2 w) → StepOk P (execOp a.eval o) w fun v w' => Bel w w' ∧ G.G v w') (h2 : ∀ x, G.ok x → wpL P w0 ops plan F (k + 1) R (a.put o.dst x) ((k, G.G x) :: kn)) : wpL P w0 ops plan F k (o :: R) a kn := by
  rw [wpL, if_pos hw, hp]
  exact ⟨h1, h2⟩
/-- An operation that is guarded away. -/
theorem wpL_skip (hw : Region.wanted o (yielded ops a.tmps) = false) (h2 : wpL P w0 ops plan F (k + 1) R (a.put o.dst undef) kn) : wpL P w0 ops plan F k (o :: R) a kn := by
  rw [wpL, if_neg (by rw [hw]; simp)]
  exact h2
theorem wpL_nil (h : ∀ w, Bel w0 w → (∀ p ∈ kn, p.2 w) → F a w) : wpL P w0 ops plan F k [] a kn := h
end
end Go.Proofs.YthcoccoanpmhgaaDoor
