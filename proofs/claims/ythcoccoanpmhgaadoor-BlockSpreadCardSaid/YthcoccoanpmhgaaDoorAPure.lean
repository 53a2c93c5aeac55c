/- Operations that write nothing, as functions of what the operands read as (aPure); each does what it says. -/
import Derived.Test.YthcoccoanpmhgaaDoorATy
namespace Go.Proofs.YthcoccoanpmhgaaDoor
open Go.RowKit
set_option linter.unusedVariables false
set_option linter.unusedSimpArgs false
set_option linter.unusedSectionVars false

/-- Where an operation is as it should be (the Prop), it answers that. -/
abbrev Ans := Option (Prop × AV)
def aLoadObj (tab : Tab) (i : TyI) (ob : AObj) (k o : Nat) : Ans :=
  match i.k, ob.box, Nat.beq o 0, ob.pure with
  | .arr n _, false, true, true => match Nat.beq i.sz (n * ob.sz) with
    | true => some (k = 0 ∧ ob.n = n, .arr ob.sz n ob.f)
    | false => none
  | _, _, _, _ => (mkT tab i (((ob.f k).drop o).take i.sz)).map fun v => (k < ob.n ∧ o + i.sz ≤ ob.sz, v)
def aLoad (tab : Tab) (t : TypeId) (p : AV) (H : List AObj) : Ans :=
  match tab t with
  | none => none
  | some i => match p with
    | .ip cs => (mkT tab i (cs.take i.sz)).map fun v => (i.sz ≤ cs.length, v)
    | .ptr id sz k o => match nth H id with
      | some ob => match ob.st, Nat.beq ob.sz sz with
        | 0, true | 1, true => aLoadObj tab i ob k o
        | _, _ => none
      | none => none
    | _ => none

section
variable {P : Program} {tab : Tab} {X : Nat → Prop} {H : List AObj} {μ : Mu} {w : World}
theorem beq_t {a b : Nat} (h : Nat.beq a b = true) : a = b := Nat.eq_of_beq_eq_true h
/-- The cells of element k of an object, and its block. -/
theorem elem_cells {b m : Nat} {o : AObj} {cur : Array Value} {O : Nat → Prop} (hz : 0 < o.sz) (h : ObjIn O w μ b m o cur) {k : Nat} (hk : k < o.n) :
    ∃ vs : List Value, RVs O w (if o.pure then noMu else μ) (o.f k) vs ∧ vs.length = o.sz ∧ (∀ j v, vs[j]? = some v → cur[k * o.sz + j]? = some v) ∧ w.rangeAt b (k * o.sz) vs := by
  have hle : (k + 1) * o.sz ≤ cur.size := by rw [h.size]; exact Nat.mul_le_mul_right _ (by have := h.nle; omega)
  have hle' : k * o.sz + o.sz ≤ cur.size := by rw [Nat.add_mul] at hle; omega
  have hlen : ((cur.toList.drop (k * o.sz)).take o.sz).length = o.sz := by simp; omega
  have hget : ∀ j v, ((cur.toList.drop (k * o.sz)).take o.sz)[j]? = some v → cur[k * o.sz + j]? = some v := by
    intro j v hv
    rw [List.getElem?_take] at hv
    split at hv
    · simpa using hv
    · cases hv
  refine ⟨(cur.toList.drop (k * o.sz)).take o.sz, ⟨by rw [hlen, h.flen k hk], fun j a v ha hv => h.cell k j a v hk ha (hget j v hv)⟩, hlen, hget, fun j v hv => ?_⟩
  rw [cell_of_row w b _ cur o.T (0, 0) h.blk]
  exact hget j v hv
theorem RVs.opt {O : Nat → Prop} {b : Bool} {cs : List AV} {vs : List Value} (h : RVs O w (if b then noMu else μ) cs vs) : RVs O w μ cs vs := by
  cases b
  · exact h
  · exact ⟨h.1, fun j a v ha hv => (h.2 j a v ha hv).up⟩
theorem HRel.at_ (hH : HRel μ X H w) {id : Nat} {ob : AObj} (h : nth H id = some ob) (hs : ob.st < 2) {b m : Nat} (hm : μ id = some (some (b, m))) : 0 < ob.sz ∧ ∃ cur, ObjIn (OO X H μ) w μ b m ob cur := by
  rw [nth_eq] at h
  obtain ⟨hz, h1 | ⟨b', m', cur, h1, h2⟩⟩ := hH.obj id ob h hs
  · rw [hm] at h1; cases h1.1
  · rw [hm] at h1; injection h1 with h1; injection h1 with h1; cases h1; exact ⟨hz, cur, h2⟩
theorem loadObj_sound (hT : TabOk P tab) {t : TypeId} {i : TyI} (hty : TyOk P t i) {id k o b m : Nat} {ob : AObj} (hn : nth H id = some ob) (hs : ob.st < 2) {q : Prop} {r : AV} (hl : aLoadObj tab i ob k o = some (q, r)) (hq : q) (hH : HRel μ X H w) (hm : μ id = some (some (b, m))) :
    ∃ u, (Instr.loadAt t (.pointer (some ⟨b, k * ob.sz + o, none⟩))).run P w = .ok u w ∧ RV (OO X H μ) w μ r u := by
  obtain ⟨hz, cur, hob⟩ := hH.at_ hn hs hm
  unfold aLoadObj at hl
  split at hl
  · rename_i n e hk hbx ho hpu
    obtain rfl := beq_t ho
    split at hl
    · rename_i hes
      injection hl with hl; injection hl with e1 e2
      subst e1 e2
      obtain ⟨rfl, hn2⟩ := hq
      have hes := beq_t hes
      have hsz : n * ob.sz ≤ cur.size := by rw [hob.size]; exact Nat.mul_le_mul_right _ (by have := hob.nle; omega)
      have hlen : (cur.toList.take (n * ob.sz)).length = n * ob.sz := by simp; omega
      refine ⟨_, run_load_cells (vs := cur.toList.take (n * ob.sz)) hty (by rw [hlen, hes]) fun j v hv => ?_, ?_⟩
      · rw [List.getElem?_take] at hv
        split at hv
        · rw [cell_of_row w b _ cur ob.T (0, 0) hob.blk]; simpa using hv
        · cases hv
      · unfold mkV
        rw [hk]; simp only [TyK.isAgg, if_true]
        refine .arr (fun u hu => ?_) hlen (fun k hk => hob.flen k (by omega)) fun k j a v hk ha hv => ?_
        · obtain ⟨q, hq⟩ := List.getElem?_of_mem hu
          rw [List.getElem?_take] at hq
          split at hq
          · rename_i hlt
            have hd := Nat.div_add_mod q ob.sz
            have hm := Nat.mod_lt q hz
            have hlt2 : q / ob.sz < n := Nat.div_lt_of_lt_mul (by rw [Nat.mul_comm]; exact hlt)
            refine hob.one (q / ob.sz) (q % ob.sz) u (by omega) hm ?_
            rw [Nat.mul_comm, hd]; simpa using hq
          · cases hq
        rw [List.getElem?_take] at hv
        split at hv
        · have := hob.cell k j a v (by omega) ha (by simpa using hv)
          rw [hpu] at this; exact this
        · cases hv
    · cases hl
  · simp only [Option.map_eq_some_iff] at hl
    obtain ⟨v, hm', he⟩ := hl
    injection he with e1 e2
    subst e1 e2
    obtain ⟨vs, hv1, hv2, hv3, hv4⟩ := elem_cells hz hob hq.1
    refine ⟨_, run_load_cells (vs := (vs.drop o).take i.sz) hty (by simp; omega) fun j v hv => ?_, mkT_rv hm' ((hv1.opt.drop o).take _)⟩
    rw [List.getElem?_take] at hv
    split at hv
    · have := hv4 (o + j) v (by simpa using hv)
      rw [Nat.add_assoc]; exact this
    · cases hv
theorem load_sound (hT : TabOk P tab) {t : TypeId} {p : AV} {q : Prop} {r : AV} (hl : aLoad tab t p H = some (q, r)) (hq : q) (hH : HRel μ X H w) {v : Value} (hp : RV (OO X H μ) w μ p v) :
    ∃ u, (Instr.loadAt t v).run P w = .ok u w ∧ RV (OO X H μ) w μ r u := by
  unfold aLoad at hl
  cases hi : tab t with
  | none => rw [hi] at hl; cases hl
  | some i =>
    rw [hi] at hl
    have hty := hT t i hi
    cases hp with
    | ip h1 h hg hlt hA =>
      rename_i cs g o vs
      simp only [Option.map_eq_some_iff] at hl
      obtain ⟨v, hm, he⟩ := hl
      injection he with e1 e2
      subst e1 e2
      have hr : RVs (OO X H μ) w noMu cs vs := ⟨h1, h⟩
      have hlen : (vs.take i.sz).length = i.sz := by rw [List.length_take, ← h1]; omega
      exact ⟨_, run_load_cells hty hlen fun j v hv => hA j v (by rw [List.getElem?_take] at hv; split at hv; exact hv; cases hv), (mkT_rv hm (hr.take _)).up⟩
    | ptr hm =>
      rename_i id sz k o b m
      simp only at hl
      cases hn : nth H id with
      | none => rw [hn] at hl; cases hl
      | some ob =>
        rw [hn] at hl
        simp only at hl
        split at hl
        · rename_i h1 h2; obtain rfl := beq_t h2; exact loadObj_sound hT hty hn (by omega) hl hq hH hm
        · rename_i h1 h2; obtain rfl := beq_t h2; exact loadObj_sound hT hty hn (by omega) hl hq hH hm
        · cases hl
    | _ => cases hl

/-! numbers -/
def aBin (op : BinOp) (x y : Value) : Option (Prop × Value) :=
  match x, y with
  | .int k a, .int k' b => match op with
    | .shl => some (0 ≤ b, .int k (k.wrap (a * 2 ^ min b.toNat k.bits)))
    | .shr => some (0 ≤ b, .int k (a.fdiv (2 ^ min b.toNat k.bits)))
    | .add => some (k = k', .int k (k.wrap (a + b)))
    | .sub => some (k = k', .int k (k.wrap (a - b)))
    | .mul => some (k = k', .int k (k.wrap (a * b)))
    | .quo => some (k = k' ∧ b ≠ 0, .int k (k.wrap (a.tdiv b)))
    | .rem => some (k = k' ∧ b ≠ 0, .int k (a.tmod b))
    | .and => some (k = k', .int k (k.wrap (BitVec.ofInt k.bits a &&& BitVec.ofInt k.bits b).toNat))
    | .or => some (k = k', .int k (k.wrap (BitVec.ofInt k.bits a ||| BitVec.ofInt k.bits b).toNat))
    | .xor => some (k = k', .int k (k.wrap (BitVec.ofInt k.bits a ^^^ BitVec.ofInt k.bits b).toNat))
    | .andNot => some (k = k', .int k (k.wrap (BitVec.ofInt k.bits a &&& ~~~ BitVec.ofInt k.bits b).toNat))
    | .eql => some (k = k', .bool (a == b))
    | .neq => some (k = k', .bool (a != b))
    | .lss => some (k = k', .bool (a < b))
    | .leq => some (k = k', .bool (a ≤ b))
    | .gtr => some (k = k', .bool (a > b))
    | .geq => some (k = k', .bool (a ≥ b))
  | .string a, .string b => match op with
    | .eql => some (True, .bool (a.toList == b.toList))
    | .neq => some (True, .bool (!(a.toList == b.toList)))
    | .add => some (((a.size + b.size : Nat) : Int) ≤ IntKind.i64.max, .string (a ++ b))
    | .lss => some (True, .bool (Op.bytesLess a.toList b.toList))
    | .gtr => some (True, .bool (!(Op.bytesLess a.toList b.toList || a.toList == b.toList)))
    | _ => none
  | _, _ => none
theorem bin_sound {op : BinOp} {x y : Value} {q : Prop} {r : Value} (h : aBin op x y = some (q, r)) (hq : q) (t : TypeId) (xo yo : Operand) : (do eqGuard op t xo yo x y; binOp op t x y : Sem Value).run P w = .ok r w := by
  have g : ∀ {s : Sem Value}, (match x, y with | .int _ _, .int _ _ => True | .string _, .string _ => True | _, _ => False) → (do eqGuard op t xo yo x y; s : Sem Value).run P w = s.run P w := by
    intro s hxy
    unfold eqGuard
    split at hxy <;> first | exact hxy.elim | (cases op <;> simp)
  unfold aBin at h
  split at h
  · rename_i k a k' b
    rw [g trivial]
    cases op <;> simp only [Option.some.injEq, Prod.mk.injEq] at h <;> obtain ⟨rfl, rfl⟩ := h <;> first
      | (obtain ⟨rfl, h0⟩ := hq; simp [binOp, Op.intDiv, h0]; done)
      | (subst hq; simp [binOp, Op.intArith, Op.intBits, Op.intCmp]; done)
      | (simp [binOp, Op.shift, show ¬ b < 0 by omega]; done)
  · rename_i a b
    rw [g trivial]
    cases op <;> simp only [Option.some.injEq, Prod.mk.injEq, reduceCtorEq] at h <;> obtain ⟨rfl, rfl⟩ := h <;> first
      | (simp [binOp, Op.stringOp]; done)
      | (have : ¬ ((a.size + b.size : Nat) : Int) > IntKind.i64.max := by omega
         simp only [binOp, Op.stringOp]; rw [if_neg this]; rfl)
  · cases h
def aUn (op : UnOp) (x : Value) : Option Value :=
  match op, x with
  | .neg, .int k n => some (.int k (k.wrap (0 - n)))
  | .xor, .int k n => some (.int k (k.wrap (BitVec.ofInt k.bits (if k.signed then -1 else k.max) ^^^ BitVec.ofInt k.bits n).toNat))
  | .not, .bool b => some (.bool (!b))
  | _, _ => none
theorem un_sound {op : UnOp} {x r : Value} (h : aUn op x = some r) : (Op.unary op x).run P w = .ok r w := by
  unfold aUn at h
  split at h <;> first | (injection h with h; subst h; simp [Op.unary, Op.intArith, Op.intBits]; done) | cases h
/-- Against nil, and of bools. -/
def aEq (x y : AV) : Option (Prop × Bool) :=
  match x, y with
  | .lit (.bool a), .lit (.bool b) => some (True, a == b)
  | _, _ => none
end
end Go.Proofs.YthcoccoanpmhgaaDoor
