/- All operations that write nothing, as one function (aPure). -/
import Derived.Test.YthcoccoanpmhgaaDoorAPure4
import Derived.Laws.StructEq
namespace Go.Proofs.YthcoccoanpmhgaaDoor
open Go.RowKit
set_option linter.unusedVariables false
set_option linter.unusedSimpArgs false
set_option linter.unusedSectionVars false
variable {P : Program} {tab : Tab} {X : Nat → Prop} {H : List AObj} {μ : Mu} {w : World} {O : Nat → Prop}

theorem RV.lit_eq {x v : Value} (h : RV O w μ (.lit x) v) : v = x := by cases h; rfl
def arrF : AV → Option (Nat × (Nat → List AV))
  | .arr 1 n f => some (n, f)
  | .agg cs => some (cs.length, fun k => [cs.getD k .junk])
  | _ => none
def isInts (kd : IntKind) (n : Nat) (f : Nat → List AV) : Prop := ∀ k, k < n → ∃ a, f k = [.lit (.int kd a)]
def intA : List AV → Int
  | [.lit (.int _ a)] => a
  | _ => 0
def arrEq (n : Nat) (f g : Nat → List AV) : Bool := decide (∀ k, k < n → intA (f k) = intA (g k))
theorem arrF_ok {x : AV} {n : Nat} {f : Nat → List AV} (h : arrF x = some (n, f)) {v : Value} (hv : RV O w μ x v) {kd : IntKind} (hi : isInts kd n f) : ∃ cs : Array Value, v = .agg cs ∧ cs.size = n ∧ ∀ k, k < n → cs[k]? = some (.int kd (intA (f k))) := by
  unfold arrF at h
  split at h
  · injection h with h; injection h with h1 h2; subst h1 h2
    cases hv with
    | arr h0 h1 h2 h3 =>
      rename_i vs
      refine ⟨_, rfl, by simpa using h1, fun k hk => ?_⟩
      obtain ⟨a, ha⟩ := hi k hk
      have hlt : k * 1 + 0 < vs.length := by omega
      have := h3 k 0 _ _ hk (by rw [ha]; rfl) (List.getElem?_eq_getElem hlt)
      have e : vs[k * 1 + 0] = .int kd a := this.lit_eq
      simp only [Nat.mul_one, Nat.add_zero] at e
      rw [ha]
      simp [intA, ← e, show k < vs.length by omega]
  · injection h with h; injection h with h1 h2; subst h1 h2
    cases hv with
    | agg h1 h2 =>
      rename_i cs vs
      refine ⟨_, rfl, by simpa using h1.symm, fun k hk => ?_⟩
      obtain ⟨a, ha⟩ := hi k hk
      have hlt : k < vs.length := by omega
      have := h2 k _ _ (List.getElem?_eq_getElem hk) (List.getElem?_eq_getElem hlt)
      have e0 : cs[k] = .lit (.int kd a) := by simpa [List.getD_eq_getElem?_getD, hk] using ha
      rw [e0] at this
      have e : vs[k] = .int kd a := this.lit_eq
      rw [ha]
      simp [intA, ← e, hlt]
  · cases h
theorem forIn_all2 {t : Nat → Bool} {β : Type} (f : Nat → β → Sem (ForInStep β)) (b d : β) : ∀ (l : List Nat), (∀ i ∈ l, (f i b).run P w = .ok (if t i = true then .yield b else .done d) w) → (forIn l b f).run P w = .ok (if l.all t = true then b else d) w
  | [], _ => by simp
  | i :: l, h => by
    rw [List.forIn_cons, Sem.run_bind, h i (by simp)]
    simp only [Result.andThen_ok]
    cases ht : t i with
    | true =>
      simp only [List.all_cons, ht, Bool.true_and, if_true]
      exact forIn_all2 (t := t) f b d l fun i hi => h i (by simp [hi])
    | false => simp [List.all_cons, ht]
theorem run_part_int {e : TypeId} {k : IntKind} {cs : Array Value} {v : Value} {j : Nat} (he : P.underlying e = some (.int k)) (hc : cs[j]? = some v) : (part e cs j).run P w = .ok v w := by
  simp [part, isAgg, run_underlying he, hc]
theorem run_equalIn_ints {t e : TypeId} {n d : Nat} {kd : IntKind} {xs ys : Array Value} {f g : Nat → Int} (hu : P.underlying t = some (.array n e)) (he : P.underlying e = some (.int kd)) (hs : (sizeOf e).run P w = .ok 1 w)
    (hx : ∀ k, k < n → xs[k]? = some (.int kd (f k))) (hy : ∀ k, k < n → ys[k]? = some (.int kd (g k))) : (Op.equalIn (d + 2) t (.agg xs) (.agg ys)).run P w = .ok (decide (∀ k, k < n → f k = g k)) w := by
  rw [Op.equalIn]
  simp only [Sem.run_bind, run_underlying hu, Result.andThen_ok, hs, Sem.run_pure]
  simp only [Std.Legacy.Range.forIn_eq_forIn_range']
  rw [forIn_all2 (t := fun i => f i == g i) (d := ⟨some false, ()⟩)]
  · generalize hA : (List.all _ fun i => f i == g i) = A
    have : A = decide (∀ k, k < n → f k = g k) := by
      rw [← hA, Bool.eq_iff_iff]
      simp [List.all_eq_true, List.mem_range'_1, Std.Legacy.Range.size]
    subst this
    by_cases h : ∀ k, k < n → f k = g k
    · rw [decide_eq_true h]; simp
    · rw [decide_eq_false h]; simp
  · intro i hm
    have hi : i < n := by simp [List.mem_range'] at hm; simpa using hm
    have hp := run_part_int (P := P) (w := w) he (hx i hi)
    have hq := run_part_int (P := P) (w := w) he (hy i hi)
    have h2 := run_equalIn_int (P := P) w d e kd kd (f i) (g i) he
    simp [Sem.run_bind, hp, hq, h2]
    split <;> simp_all
theorem run_guard_ints {op : BinOp} {t e : TypeId} {n : Nat} {kd : IntKind} {xs ys : Array Value} {f g : Nat → Int} (xo yo : Operand) (hu : P.underlying t = some (.array n e)) (he : P.underlying e = some (.int kd)) (hs : (sizeOf e).run P w = .ok 1 w)
    (hx : ∀ k, k < n → xs[k]? = some (.int kd (f k))) (hy : ∀ k, k < n → ys[k]? = some (.int kd (g k))) : (eqGuard op t xo yo (.agg xs) (.agg ys)).run P w = .ok () w := by
  have h1 : (Op.eqGuardIn (9998 + 2) t (.agg xs) (.agg ys)).run P w = .ok false w := by
    rw [Op.eqGuardIn]
    simp only [Sem.run_bind, run_underlying hu, Result.andThen_ok, hs, Sem.run_pure]
    simp only [Std.Legacy.Range.forIn_eq_forIn_range']
    rw [forIn_all2 (t := fun i => true) (d := ⟨some false, ()⟩)]
    · simp
    · intro i hm
      have hi : i < n := by simp [List.mem_range'] at hm; simpa using hm
      have hp := run_part_int (P := P) (w := w) he (hx i hi)
      have hq := run_part_int (P := P) (w := w) he (hy i hi)
      have h2 : (Op.eqGuardIn (9998 + 1) e (.int kd (f i)) (.int kd (g i))).run P w = .ok false w := by
        rw [Op.eqGuardIn]
        simp [Sem.run_bind, run_underlying he]
      simp [Sem.run_bind, hp, hq, h2]
  have h1 : (Op.eqGuardIn Op.maxDepth t (.agg xs) (.agg ys)).run P w = .ok false w := h1
  cases op <;> simp [eqGuard, run_program, h1]
def aCmp (tab : Tab) (op : BinOp) (t : TypeId) (x y : AV) : Ans :=
  match tab t with
  | some i => match i.k, op, x, y with
    | .bool, .eql, .lit (.bool a), .lit (.bool b) => some (True, .lit (.bool (a == b)))
    | .bool, .neq, .lit (.bool a), .lit (.bool b) => some (True, .lit (.bool (!(a == b))))
    | .arr n e, op, x, y => match tab e, arrF x, arrF y with
      | some ei, some (m, f), some (m', g) => match ei.k, Nat.beq m n, Nat.beq m' n, op with
        | .int kd, true, true, .eql => some (isInts kd n f ∧ isInts kd n g, .lit (.bool (arrEq n f g)))
        | .int kd, true, true, .neq => some (isInts kd n f ∧ isInts kd n g, .lit (.bool (!arrEq n f g)))
        | _, _, _, _ => none
      | _, _, _ => none
    | _, _, _, _ => none
  | none => none
theorem cmp_sound (hT : TabOk P tab) {op : BinOp} {t : TypeId} {x y r : AV} {q : Prop} (h : aCmp tab op t x y = some (q, r)) (hq : q) {u v : Value} (hu : RV O w μ x u) (hv : RV O w μ y v) (xo yo : Operand) :
    ∃ z, (do eqGuard op t xo yo u v; binOp op t u v : Sem Value).run P w = .ok z w ∧ RV O w μ r z := by
  unfold aCmp at h
  split at h
  · rename_i i hi
    have hun := (hT _ _ hi).und
    split at h
    rotate_left
    rotate_left
    · rename_i n e hk
      split at h
      · rename_i ei m f m' g he hf hg
        split at h <;> first | (cases h; done) | (injection h with h; injection h with h1 h2; subst h1 h2)
        all_goals
          rename_i kd hkd hm hm'
          have hm := beq_t hm; have hm' := beq_t hm'
          subst hm; subst hm'
          have hty := hT _ _ he
          have hue := hty.und
          rw [hkd] at hue; simp only [UndOk] at hue
          rw [hk] at hun; simp only [UndOk] at hun
          have hsz : (sizeOf e).run P w = .ok 1 w := by have := hty.run_size (w := w); rw [hty.one (by rw [hkd]; rfl)] at this; exact this
          obtain ⟨cs, rfl, hs1, hc1⟩ := arrF_ok hf hu hq.1
          obtain ⟨ds, rfl, hs2, hc2⟩ := arrF_ok hg hv hq.2
          refine ⟨_, ?_, .lit _⟩
          rw [Sem.run_bind, run_guard_ints xo yo hun hue hsz hc1 hc2]
          simp only [Result.andThen_ok]
          first
            | rw [run_eql_struct, run_equalIn_ints (d := 9998) hun hue hsz hc1 hc2]
            | rw [run_neq_struct, run_equalIn_ints (d := 9998) hun hue hsz hc1 hc2]
          rfl
      · cases h
    · cases h
    all_goals
      injection h with h; injection h with h1 h2; subst h1 h2
      rename_i hk
      rw [hk] at hun; simp only [UndOk] at hun
      cases hu; cases hv
      refine ⟨_, ?_, .lit _⟩
      have he : ∀ a b : Bool, (Op.equal t (.bool a) (.bool b)).run P w = .ok (a == b) w := fun a b => by
        show (Op.equalIn (9999 + 1) t (.bool a) (.bool b)).run P w = _
        rw [Op.equalIn, Sem.run_bind, run_underlying hun]
        rfl
      simp only [eqGuard, binOp, Sem.run_bind, he]
      simp [he]
  · cases h
def aNilCheck : AV → Option AV
  | .ptr i sz k o => some (.ptr i sz k o)
  | .ip cs => some (.ip cs)
  | .fn (.func f) a b => some (.fn (.func f) a b)
  | _ => none
def canBox : TyK → Bool
  | .int _ | .bool | .str | .ptr _ | .slice _ | .arr _ _ | .struct _ | .map _ _ | .func => true
  | _ => false
/-- What an operation answers that writes nothing. -/
def aPure (tab : Tab) (H : List AObj) (ev : Operand → AV) : Op → Ans
  | .move x => some (True, ev x)
  | .assign x => some (True, ev x)
  | .pick c a b => match ev c, ev a, ev b with
    | .lit (.bool t), .lit x, .lit y => some (True, .lit (bif t then x else y))
    | _, _, _ => none
  | .load t x => aLoad tab t (ev x) H
  | .nilCheck x => (aNilCheck (ev x)).map fun r => (True, r)
  | .binOp op t x y _ => match ev x, ev y with
    | .lit a, .lit b => match aBin op a b with
      | some (q, r) => some (q, .lit r)
      | none => aCmp tab op t (.lit a) (.lit b)
    | a, b => aCmp tab op t a b
  | .unOp op _ x => match ev x with
    | .lit a => (aUn op a).map fun r => (True, .lit r)
    | _ => none
  | .convert s d x => aConv tab s d (ev x)
  | .makeInterface t x => match tab t with
    | some i => match canBox i.k with
      | true => some (True, .iface t (ev x))
      | false => none
    | none => none
  | .sliceToArrayPointer t x => match tab t, ev x with
    | some i, .sl sz m _ f => match i.k with
      | .arr n _ => some (n ≤ m ∧ 0 < n, .ip ((List.range n).map f).flatten)
      | _ => none
    | _, _ => none
  | .makeFunc fn a b => some (True, .fn fn (a.toList.map ev) (b.toList.map ev))
  | .build t ps => (aBuild tab t (ps.toList.map fun p => (p.1, ev p.2))).map fun r => (True, r)
  | .slice t x lo hi mx => aSlice tab H t (ev x) (lo.map ev) (hi.map ev) (mx.map ev)
  | .fieldAddr t x k => (aFieldAddr tab t (ev x) k).map fun r => (True, r)
  | .field t x k => aField tab t (ev x) k
  | .indexAddr t x i => aIndexAddr tab t (ev x) (ev i)
  | .index t x i => aIndex tab t (ev x) (ev i)
  | .extract x k => match ev x with
    | .tup vs => (nth vs k).map fun r => (True, r)
    | _ => none
  | .call ⟨.builtin .len, ⟨[x]⟩, ⟨[t]⟩⟩ => (aLen tab t (ev x)).map fun r => (True, r)
  | .call ⟨.builtin .max, ⟨[x, y]⟩, _⟩ => match ev x, ev y with | .lit (.int k a), .lit (.int _ b) => some (True, .lit (.int k (max a b))) | _, _ => none
  | .call ⟨.builtin .min, ⟨[x, y]⟩, _⟩ => match ev x, ev y with | .lit (.int k a), .lit (.int _ b) => some (True, .lit (.int k (min a b))) | _, _ => none
  | _ => none
theorem pure_sound (hT : TabOk P tab) {ev : Operand → AV} {o : Oper} {r : AV} {q : Prop} (h : aPure tab H ev o.op = some (q, r)) (hq : q) (hH : HRel μ X H w) {ρ : Operand → Value} (hr : ∀ x, RV (OO X H μ) w μ (ev x) (ρ x)) :
    ∃ u, (execOp ρ o).run P w = .ok (.value u) w ∧ RV (OO X H μ) w μ r u := by
  have vv : ∀ {s : Sem Value} {u : Value}, s.run P w = .ok u w → (do pure (.value (← s)) : Sem Next).run P w = .ok (.value u) w := fun hs => by simp [hs]
  have one : ∀ {s : Sem Value}, (∃ u, s.run P w = .ok u w ∧ RV (OO X H μ) w μ r u) → ∃ u, (do pure (.value (← s)) : Sem Next).run P w = .ok (.value u) w ∧ RV (OO X H μ) w μ r u := fun ⟨u, h1, h2⟩ => ⟨u, vv h1, h2⟩
  unfold execOp
  generalize o.op = op at h
  cases op <;> simp only [aPure, reduceCtorEq] at h <;> try (cases h; done)
  all_goals dsimp only
  case move x => injection h with h; injection h with h1 h2; subst h1 h2; exact ⟨_, by simp, hr x⟩
  case assign x => injection h with h; injection h with h1 h2; subst h1 h2; exact ⟨_, by simp, hr x⟩
  case pick c a b =>
    split at h
    · rename_i t x y hc ha hb
      injection h with h; injection h with h1 h2; subst h1 h2
      have h1 := hr c; have h2 := hr a; have h3 := hr b
      rw [hc] at h1; rw [ha] at h2; rw [hb] at h3
      generalize ρ c = c' at *; generalize ρ a = a' at *; generalize ρ b = b' at *
      cases h1; cases h2; cases h3
      refine ⟨_, ?_, .lit _⟩
      simp only [Sem.run_bind, asBool, Sem.run_pure, Result.andThen_ok]
      cases t <;> rfl
    · cases h
  case load t x => exact one (load_sound hT h hq hH (hr x))
  case nilCheck x =>
    simp only [Option.map_eq_some_iff, Prod.mk.injEq] at h
    obtain ⟨a, ha, rfl, rfl⟩ := h
    have hx := hr x
    unfold aNilCheck at ha
    split at ha <;> first | (cases ha; done) | (injection ha with ha; subst ha; rename_i he; rw [he] at hx; generalize ρ x = x' at *; refine ⟨x', ?_, hx⟩; cases hx <;> rfl)
  case binOp op t x y yt =>
    have hx := hr x
    have hy := hr y
    split at h
    · rename_i a b ha hb
      rw [ha] at hx; rw [hb] at hy
      generalize ρ x = x' at *; generalize ρ y = y' at *
      cases hx; cases hy
      split at h
      · rename_i q r hbin
        injection h with h; injection h with h1 h2; subst h1 h2
        exact ⟨_, vv (bin_sound hbin hq t x y), .lit _⟩
      · exact one (cmp_sound hT h hq (.lit _) (.lit _) x y)
    · exact one (cmp_sound hT h hq hx hy x y)
  case unOp op t x =>
    have hx := hr x
    split at h
    · rename_i a ha
      rw [ha] at hx
      generalize ρ x = x' at *
      cases hx
      simp only [Option.map_eq_some_iff, Prod.mk.injEq] at h
      obtain ⟨v, hv, rfl, rfl⟩ := h
      exact ⟨_, vv (un_sound hv), .lit _⟩
    · cases h
  case convert s d x => exact one (conv_sound hT h hq (hr x))
  case makeInterface t x =>
    split at h
    · rename_i i hi
      split at h
      · rename_i hk
        injection h with h; injection h with h1 h2; subst h1 h2
        refine ⟨_, vv ?_, .iface (hr x)⟩
        have hu := (hT _ _ hi).und
        cases hkk : i.k <;> rw [hkk] at hk hu <;> simp only [canBox, Bool.false_eq_true] at hk <;> simp only [UndOk] at hu
        all_goals first
          | (simp [Instr.makeInterface, run_underlying hu]; done)
          | (obtain ⟨_, hu, _⟩ := hu; simp [Instr.makeInterface, run_underlying hu]; done)
          | (obtain ⟨_, _, _, hu⟩ := hu; simp [Instr.makeInterface, run_underlying hu]; done)
      · cases h
    · cases h
  case sliceToArrayPointer t x =>
    have hx := hr x
    split at h
    · rename_i i sz m tt f hi he
      split at h
      · rename_i n e hk
        injection h with h; injection h with h1 h2; subst h1 h2
        rw [he] at hx
        generalize ρ x = x' at *
        have hu := (hT _ _ hi).und
        rw [hk] at hu; simp only [UndOk] at hu
        cases hx with
        | sl ho hc hm ht h1 h2 h3 hz hA =>
          rename_i A c vs
          obtain ⟨g, o, rfl, hg, hcell⟩ := hA (by omega)
          have hlen : ∀ (l : List Nat), (∀ k ∈ l, k < m) → ((l.map f).flatten).length = l.length * sz := fun l hl => by
            induction l with
            | nil => simp
            | cons k l ih => simp [h2 k (hl k (by simp)), ih fun k hk => hl k (by simp [hk])]; rw [Nat.add_mul]; omega
          have hvl : n * sz ≤ vs.length := by rw [h1]; exact Nat.mul_le_mul_right _ hq.1
          have h00 : 0 < vs.length := by rw [h1]; exact Nat.mul_pos (by omega) hz
          refine ⟨.pointer (some ⟨g, o, none⟩), vv (by simp [Instr.arrayAt, run_underlying hu, Nat.not_lt.2 hq.1]), .ip (vs := vs.take (n * sz)) ?_ (fun j a v ha hv => ?_) hg (World.block_lt_of_cell? w _ (hcell 0 _ (List.getElem?_eq_getElem h00))) fun j u hu => ?_⟩
          · rw [hlen _ (fun k hk => by have := List.mem_range.1 hk; omega)]; simp [Nat.min_eq_left hvl]
          · have hj : j < n * sz := by have := (List.getElem?_eq_some_iff.1 hv).1; simp at this; omega
            rw [List.getElem?_take_of_lt hj] at hv
            have hjd : j / sz < n := (Nat.div_lt_iff_lt_mul hz).2 hj
            have hjm : j % sz < sz := Nat.mod_lt _ hz
            have hjj : j = j / sz * sz + j % sz := (Nat.div_add_mod' j sz).symm
            have hget : ∀ (l : List Nat), (∀ k ∈ l, k < m) → ∀ (q r : Nat), r < sz → ((l.map f).flatten)[q * sz + r]? = (l[q]?).bind fun k => (f k)[r]? := fun l => by
              induction l with
              | nil => intro _ q r _; simp
              | cons k l ih =>
                intro hl q r hr'
                simp only [List.map_cons, List.flatten_cons]
                cases q with
                | zero => rw [List.getElem?_append_left (by rw [h2 k (hl k (by simp))]; omega)]; simp
                | succ q =>
                  rw [List.getElem?_append_right (by rw [h2 k (hl k (by simp)), Nat.add_mul]; omega), h2 k (hl k (by simp))]
                  have : (q + 1) * sz + r - sz = q * sz + r := by rw [Nat.add_mul]; omega
                  rw [this, ih (fun k hk => hl k (by simp [hk])) q r hr']
                  simp
            rw [hjj, hget _ (fun k hk => by have := List.mem_range.1 hk; omega) _ _ hjm] at ha
            simp [List.getElem?_range hjd] at ha
            rw [hjj] at hv
            exact h3 _ _ a v (by omega) ha hv
          · rw [List.getElem?_take] at hu
            split at hu
            · exact hcell j u hu
            · cases hu
      · cases h
    · cases h
  case makeFunc fn a b =>
    injection h with h; injection h with h1 h2; subst h1 h2
    refine ⟨.func fn (a.map ρ) (b.map ρ), by simp [Instr.makeFunc], ?_⟩
    have hl : ∀ l : List Operand, (l.map ev).length = (l.map ρ).length ∧ ∀ (j : Nat) x v, (l.map ev)[j]? = some x → (l.map ρ)[j]? = some v → RV (OO X H μ) w μ x v := fun l => ⟨by simp, fun j x v hx hv => by
      simp only [List.getElem?_map, Option.map_eq_some_iff] at hx hv
      obtain ⟨p, hp, rfl⟩ := hx
      obtain ⟨p', hp', rfl⟩ := hv
      rw [hp] at hp'; injection hp' with hp'; subst hp'
      exact hr _⟩
    have e : ∀ z : Array Operand, z.map ρ = (z.toList.map ρ).toArray := fun z => by apply Array.ext'; simp
    rw [e, e]
    exact .fn (hl _).1 (hl _).2 (hl _).1 (hl _).2
  case build t ps =>
    simp only [Option.map_eq_some_iff, Prod.mk.injEq] at h
    obtain ⟨a, ha, rfl, rfl⟩ := h
    have := build_sound hT ha (w := w) (O := OO X H μ) (μ := μ) (vparts := ps.toList.map fun p => (p.1, ρ p.2)) (by simp) fun j i x i' v hx hv => by
      simp only [List.getElem?_map, Option.map_eq_some_iff, Prod.mk.injEq] at hx hv
      obtain ⟨p, hp, rfl, rfl⟩ := hx
      obtain ⟨p', hp', rfl, rfl⟩ := hv
      rw [hp] at hp'; injection hp' with hp'; subst hp'
      exact ⟨rfl, hr _⟩
    have e : (ps.map fun (i, x) => (i, ρ x)) = (ps.toList.map fun p => (p.1, ρ p.2)).toArray := by apply Array.ext'; simp
    rw [e]
    exact one this
  case slice t x lo hi mx =>
    have g : ∀ (z : Option Operand), (∀ a, z.map ev = some a → ∃ v, z.map ρ = some v ∧ RV (OO X H μ) w μ a v) ∧ (z.map ev = none → z.map ρ = none) := fun z => by
      cases z with
      | none => exact ⟨fun a h => (by cases h), fun _ => rfl⟩
      | some z => exact ⟨fun a h => (by simp at h; subst h; exact ⟨_, rfl, hr z⟩), fun h => (by cases h)⟩
    exact one (slice_sound hT h hq hH (hr x) (g lo).1 (g lo).2 (g hi).1 (g hi).2 (g mx).1 (g mx).2)
  case fieldAddr t x k =>
    simp only [Option.map_eq_some_iff, Prod.mk.injEq] at h
    obtain ⟨a, ha, rfl, rfl⟩ := h
    exact one (fieldAddr_sound hT ha (hr x))
  case field t x k => exact one (field_sound hT h hq (hr x))
  case indexAddr t x i => exact one (indexAddr_sound hT h hq (hr x) (hr i))
  case index t x i => exact one (index_sound hT h hq (hr x) (hr i))
  case extract x k =>
    have hx := hr x
    split at h
    · rename_i vs ha
      rw [ha] at hx
      generalize ρ x = x' at *
      cases hx with
      | tup h1 h2 =>
        rename_i us
        simp only [Option.map_eq_some_iff, Prod.mk.injEq] at h
        obtain ⟨a, ha, rfl, rfl⟩ := h
        rw [nth_eq] at ha
        obtain ⟨v, hv1, hv2⟩ := RVs.at_ (cs := vs) (vs := us) ⟨h1, h2⟩ ha
        exact ⟨v, vv (by simp [Instr.extract, hv1]), hv2⟩
    · cases h
  case call c =>
    split at h <;> first | (cases h; done) | (rename_i heq; cases heq; done) | skip
    rotate_left
    · rename_i x y ts heq
      simp only [Op.call.injEq] at heq
      subst heq
      have hx := hr x
      have hy := hr y
      split at h
      · rename_i k a k' b ha hb
        injection h with h; injection h with h1 h2; subst h1 h2
        rw [ha] at hx; rw [hb] at hy
        refine ⟨_, ?_, .lit _⟩
        have : max a b = if b > a then b else a := by omega
        simp [resolve, invoke, builtin, Builtin.max_, Builtin.max2, hx.lit_eq, hy.lit_eq, this]
      · cases h
    · rename_i x y ts heq
      simp only [Op.call.injEq] at heq
      subst heq
      have hx := hr x
      have hy := hr y
      split at h
      · rename_i k a k' b ha hb
        injection h with h; injection h with h1 h2; subst h1 h2
        rw [ha] at hx; rw [hb] at hy
        refine ⟨_, ?_, .lit _⟩
        have : min a b = if b < a then b else a := by omega
        simp [resolve, invoke, builtin, Builtin.min_, Builtin.min2, hx.lit_eq, hy.lit_eq, this]
      · cases h
    rename_i x t heq
    simp only [Op.call.injEq] at heq
    subst heq
    simp only [Option.map_eq_some_iff, Prod.mk.injEq] at h
    obtain ⟨a, ha, rfl, rfl⟩ := h
    obtain ⟨u, h1, h2⟩ := len_sound hT ha (ty := o.type) (hr x)
    refine ⟨u, ?_, h2⟩
    simp [resolve, invoke, builtin, h1]
end Go.Proofs.YthcoccoanpmhgaaDoor
