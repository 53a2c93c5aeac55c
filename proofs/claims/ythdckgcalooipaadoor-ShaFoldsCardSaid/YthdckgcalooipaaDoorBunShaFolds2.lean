/- Operations that write nothing, as functions of what the operands read as (aPure); each does what it says. Operations that write nothing: addresses, fields, cuts, literals of structs. Operations that write nothing: indexes, cuts, literals, conversions; all of them (aPure). Operations that write nothing: literals of structs and arrays, conversions, lengths; all of them (aPure). All operations that write nothing, as one function (aPure). Memory of one's own: a new object, an object that is written; what was known beside it stays known. Operations that make an object. Operations that write: stores, appends. All operations but calls (aOp). The walk, without memory: states (St), how they stand for the machine's (SRel), operations in the text's order (AL), code (AW), calls (ACall). The walk, without memory: code, loops, what a function answers, restating a state. The walk, without memory: renaming objects; what a function answers; calls of functions that keep to themselves. -/
import Derived.Laws.StructEq
import Derived.TacticsIn
import Derived.RangeFuncSeq
import Derived.RangeFuncLeaves
import Derived.RangeFuncRecord
import Derived.RangeFuncOwn
import Derived.Test.YthdckgcalooipaaDoorBunShaFolds1
namespace Go.Proofs.YthdckgcalooipaaDoor
section
open Go.RowKit
set_option linter.unusedVariables false
set_option linter.unusedSimpArgs false
set_option linter.unusedSectionVars false

/-- Where an operation is as it should be (the Prop), it answers that. -/
abbrev Ans := Option (Prop × AV)
def aLoadObj (tab : Tab) (i : TyI) (ob : AObj) (k o : Nat) : Ans :=
  match i.k, ob.box, Nat.beq o 0, ob.pure with
  | .arr n _, false, true, true => match Nat.beq i.sz (n * ob.sz) with
    | true => some (k = 0 ∧ ob.n = n, .arr ob.sz n ob.f)
    | false => none
  | _, _, _, _ => (mkT tab i (((ob.f k).drop o).take i.sz)).map fun v => (k < ob.n ∧ o + i.sz ≤ ob.sz, v)
def aLoad (tab : Tab) (t : TypeId) (p : AV) (H : List AObj) : Ans :=
  match tab t with
  | none => none
  | some i => match p with
    | .ip cs => (mkT tab i (cs.take i.sz)).map fun v => (i.sz ≤ cs.length, v)
    | .ptr id sz k o => match nth H id with
      | some ob => match ob.st, Nat.beq ob.sz sz with
        | 0, true | 1, true => aLoadObj tab i ob k o
        | _, _ => none
      | none => none
    | _ => none

section
variable {P : Program} {tab : Tab} {X : Nat → Prop} {H : List AObj} {μ : Mu} {w : World}
theorem beq_t {a b : Nat} (h : Nat.beq a b = true) : a = b := Nat.eq_of_beq_eq_true h
/-- The cells of element k of an object, and its block. -/
theorem elem_cells {b m : Nat} {o : AObj} {cur : Array Value} {O : Nat → Prop} (hz : 0 < o.sz) (h : ObjIn O w μ b m o cur) {k : Nat} (hk : k < o.n) :
    ∃ vs : List Value, RVs O w (if o.pure then noMu else μ) (o.f k) vs ∧ vs.length = o.sz ∧ (∀ j v, vs[j]? = some v → cur[k * o.sz + j]? = some v) ∧ w.rangeAt b (k * o.sz) vs := by
  have hle : (k + 1) * o.sz ≤ cur.size := by rw [h.size]; exact Nat.mul_le_mul_right _ (by have := h.nle; omega)
  have hle' : k * o.sz + o.sz ≤ cur.size := by rw [Nat.add_mul] at hle; omega
  have hlen : ((cur.toList.drop (k * o.sz)).take o.sz).length = o.sz := by simp; omega
  have hget : ∀ j v, ((cur.toList.drop (k * o.sz)).take o.sz)[j]? = some v → cur[k * o.sz + j]? = some v := by
    intro j v hv
    rw [List.getElem?_take] at hv
    split at hv
    · simpa using hv
    · cases hv
  refine ⟨(cur.toList.drop (k * o.sz)).take o.sz, ⟨by rw [hlen, h.flen k hk], fun j a v ha hv => h.cell k j a v hk ha (hget j v hv)⟩, hlen, hget, fun j v hv => ?_⟩
  rw [cell_of_row w b _ cur o.T (0, 0) h.blk]
  exact hget j v hv
theorem RVs.opt {O : Nat → Prop} {b : Bool} {cs : List AV} {vs : List Value} (h : RVs O w (if b then noMu else μ) cs vs) : RVs O w μ cs vs := by
  cases b
  · exact h
  · exact ⟨h.1, fun j a v ha hv => (h.2 j a v ha hv).up⟩
theorem HRel.at_ (hH : HRel μ X H w) {id : Nat} {ob : AObj} (h : nth H id = some ob) (hs : ob.st < 2) {b m : Nat} (hm : μ id = some (some (b, m))) : 0 < ob.sz ∧ ∃ cur, ObjIn (OO X H μ) w μ b m ob cur := by
  rw [nth_eq] at h
  obtain ⟨hz, h1 | ⟨b', m', cur, h1, h2⟩⟩ := hH.obj id ob h hs
  · rw [hm] at h1; cases h1.1
  · rw [hm] at h1; injection h1 with h1; injection h1 with h1; cases h1; exact ⟨hz, cur, h2⟩
theorem loadObj_sound (hT : TabOk P tab) {t : TypeId} {i : TyI} (hty : TyOk P t i) {id k o b m : Nat} {ob : AObj} (hn : nth H id = some ob) (hs : ob.st < 2) {q : Prop} {r : AV} (hl : aLoadObj tab i ob k o = some (q, r)) (hq : q) (hH : HRel μ X H w) (hm : μ id = some (some (b, m))) :
    ∃ u, (Instr.loadAt t (.pointer (some ⟨b, k * ob.sz + o, none⟩))).run P w = .ok u w ∧ RV (OO X H μ) w μ r u := by
  obtain ⟨hz, cur, hob⟩ := hH.at_ hn hs hm
  unfold aLoadObj at hl
  split at hl
  · rename_i n e hk hbx ho hpu
    obtain rfl := beq_t ho
    split at hl
    · rename_i hes
      injection hl with hl; injection hl with e1 e2
      subst e1 e2
      obtain ⟨rfl, hn2⟩ := hq
      have hes := beq_t hes
      have hsz : n * ob.sz ≤ cur.size := by rw [hob.size]; exact Nat.mul_le_mul_right _ (by have := hob.nle; omega)
      have hlen : (cur.toList.take (n * ob.sz)).length = n * ob.sz := by simp; omega
      refine ⟨_, run_load_cells (vs := cur.toList.take (n * ob.sz)) hty (by rw [hlen, hes]) fun j v hv => ?_, ?_⟩
      · rw [List.getElem?_take] at hv
        split at hv
        · rw [cell_of_row w b _ cur ob.T (0, 0) hob.blk]; simpa using hv
        · cases hv
      · unfold mkV
        rw [hk]; simp only [TyK.isAgg, if_true]
        refine .arr (fun u hu => ?_) hlen (fun k hk => hob.flen k (by omega)) fun k j a v hk ha hv => ?_
        · obtain ⟨q, hq⟩ := List.getElem?_of_mem hu
          rw [List.getElem?_take] at hq
          split at hq
          · rename_i hlt
            have hd := Nat.div_add_mod q ob.sz
            have hm := Nat.mod_lt q hz
            have hlt2 : q / ob.sz < n := Nat.div_lt_of_lt_mul (by rw [Nat.mul_comm]; exact hlt)
            refine hob.one (q / ob.sz) (q % ob.sz) u (by omega) hm ?_
            rw [Nat.mul_comm, hd]; simpa using hq
          · cases hq
        rw [List.getElem?_take] at hv
        split at hv
        · have := hob.cell k j a v (by omega) ha (by simpa using hv)
          rw [hpu] at this; exact this
        · cases hv
    · cases hl
  · simp only [Option.map_eq_some_iff] at hl
    obtain ⟨v, hm', he⟩ := hl
    injection he with e1 e2
    subst e1 e2
    obtain ⟨vs, hv1, hv2, hv3, hv4⟩ := elem_cells hz hob hq.1
    refine ⟨_, run_load_cells (vs := (vs.drop o).take i.sz) hty (by simp; omega) fun j v hv => ?_, mkT_rv hm' ((hv1.opt.drop o).take _)⟩
    rw [List.getElem?_take] at hv
    split at hv
    · have := hv4 (o + j) v (by simpa using hv)
      rw [Nat.add_assoc]; exact this
    · cases hv
theorem load_sound (hT : TabOk P tab) {t : TypeId} {p : AV} {q : Prop} {r : AV} (hl : aLoad tab t p H = some (q, r)) (hq : q) (hH : HRel μ X H w) {v : Value} (hp : RV (OO X H μ) w μ p v) :
    ∃ u, (Instr.loadAt t v).run P w = .ok u w ∧ RV (OO X H μ) w μ r u := by
  unfold aLoad at hl
  cases hi : tab t with
  | none => rw [hi] at hl; cases hl
  | some i =>
    rw [hi] at hl
    have hty := hT t i hi
    cases hp with
    | ip h1 h hg hlt hA =>
      rename_i cs g o vs
      simp only [Option.map_eq_some_iff] at hl
      obtain ⟨v, hm, he⟩ := hl
      injection he with e1 e2
      subst e1 e2
      have hr : RVs (OO X H μ) w noMu cs vs := ⟨h1, h⟩
      have hlen : (vs.take i.sz).length = i.sz := by rw [List.length_take, ← h1]; omega
      exact ⟨_, run_load_cells hty hlen fun j v hv => hA j v (by rw [List.getElem?_take] at hv; split at hv; exact hv; cases hv), (mkT_rv hm (hr.take _)).up⟩
    | ptr hm =>
      rename_i id sz k o b m
      simp only at hl
      cases hn : nth H id with
      | none => rw [hn] at hl; cases hl
      | some ob =>
        rw [hn] at hl
        simp only at hl
        split at hl
        · rename_i h1 h2; obtain rfl := beq_t h2; exact loadObj_sound hT hty hn (by omega) hl hq hH hm
        · rename_i h1 h2; obtain rfl := beq_t h2; exact loadObj_sound hT hty hn (by omega) hl hq hH hm
        · cases hl
    | _ => cases hl

/-! numbers -/
def aBin (op : BinOp) (x y : Value) : Option (Prop × Value) :=
  match x, y with
  | .int k a, .int k' b => match op with
    | .shl => some (0 ≤ b, .int k (k.wrap (a * 2 ^ min b.toNat k.bits)))
    | .shr => some (0 ≤ b, .int k (a.fdiv (2 ^ min b.toNat k.bits)))
    | .add => some (k = k', .int k (k.wrap (a + b)))
    | .sub => some (k = k', .int k (k.wrap (a - b)))
    | .mul => some (k = k', .int k (k.wrap (a * b)))
    | .quo => some (k = k' ∧ b ≠ 0, .int k (k.wrap (a.tdiv b)))
    | .rem => some (k = k' ∧ b ≠ 0, .int k (a.tmod b))
    | .and => some (k = k', .int k (k.wrap (BitVec.ofInt k.bits a &&& BitVec.ofInt k.bits b).toNat))
    | .or => some (k = k', .int k (k.wrap (BitVec.ofInt k.bits a ||| BitVec.ofInt k.bits b).toNat))
    | .xor => some (k = k', .int k (k.wrap (BitVec.ofInt k.bits a ^^^ BitVec.ofInt k.bits b).toNat))
    | .andNot => some (k = k', .int k (k.wrap (BitVec.ofInt k.bits a &&& ~~~ BitVec.ofInt k.bits b).toNat))
    | .eql => some (k = k', .bool (a == b))
    | .neq => some (k = k', .bool (a != b))
    | .lss => some (k = k', .bool (a < b))
    | .leq => some (k = k', .bool (a ≤ b))
    | .gtr => some (k = k', .bool (a > b))
    | .geq => some (k = k', .bool (a ≥ b))
  | .string a, .string b => match op with
    | .eql => some (True, .bool (a.toList == b.toList))
    | .neq => some (True, .bool (!(a.toList == b.toList)))
    | .add => some (((a.size + b.size : Nat) : Int) ≤ IntKind.i64.max, .string (a ++ b))
    | .lss => some (True, .bool (Op.bytesLess a.toList b.toList))
    | .gtr => some (True, .bool (!(Op.bytesLess a.toList b.toList || a.toList == b.toList)))
    | _ => none
  | _, _ => none
theorem bin_sound {op : BinOp} {x y : Value} {q : Prop} {r : Value} (h : aBin op x y = some (q, r)) (hq : q) (t : TypeId) (xo yo : Operand) : (do eqGuard op t xo yo x y; binOp op t x y : Sem Value).run P w = .ok r w := by
  have g : ∀ {s : Sem Value}, (match x, y with | .int _ _, .int _ _ => True | .string _, .string _ => True | _, _ => False) → (do eqGuard op t xo yo x y; s : Sem Value).run P w = s.run P w := by
    intro s hxy
    unfold eqGuard
    split at hxy <;> first | exact hxy.elim | (cases op <;> simp)
  unfold aBin at h
  split at h
  · rename_i k a k' b
    rw [g trivial]
    cases op <;> simp only [Option.some.injEq, Prod.mk.injEq] at h <;> obtain ⟨rfl, rfl⟩ := h <;> first
      | (obtain ⟨rfl, h0⟩ := hq; simp [binOp, Op.intDiv, h0]; done)
      | (subst hq; simp [binOp, Op.intArith, Op.intBits, Op.intCmp]; done)
      | (simp [binOp, Op.shift, show ¬ b < 0 by omega]; done)
  · rename_i a b
    rw [g trivial]
    cases op <;> simp only [Option.some.injEq, Prod.mk.injEq, reduceCtorEq] at h <;> obtain ⟨rfl, rfl⟩ := h <;> first
      | (simp [binOp, Op.stringOp]; done)
      | (have : ¬ ((a.size + b.size : Nat) : Int) > IntKind.i64.max := by omega
         simp only [binOp, Op.stringOp]; rw [if_neg this]; rfl)
  · cases h
def aUn (op : UnOp) (x : Value) : Option Value :=
  match op, x with
  | .neg, .int k n => some (.int k (k.wrap (0 - n)))
  | .xor, .int k n => some (.int k (k.wrap (BitVec.ofInt k.bits (if k.signed then -1 else k.max) ^^^ BitVec.ofInt k.bits n).toNat))
  | .not, .bool b => some (.bool (!b))
  | _, _ => none
theorem un_sound {op : UnOp} {x r : Value} (h : aUn op x = some r) : (Op.unary op x).run P w = .ok r w := by
  unfold aUn at h
  split at h <;> first | (injection h with h; subst h; simp [Op.unary, Op.intArith, Op.intBits]; done) | cases h
/-- Against nil, and of bools. -/
def aEq (x y : AV) : Option (Prop × Bool) :=
  match x, y with
  | .lit (.bool a), .lit (.bool b) => some (True, a == b)
  | _, _ => none
end
end
end Go.Proofs.YthdckgcalooipaaDoor
namespace Go.Proofs.YthdckgcalooipaaDoor
section
open Go.RowKit
set_option linter.unusedVariables false
set_option linter.unusedSimpArgs false
set_option linter.unusedSectionVars false
variable {P : Program} {tab : Tab} {X : Nat → Prop} {H : List AObj} {μ : Mu} {w : World} {O : Nat → Prop}

def fieldOf (tab : Tab) (t : TypeId) (k : Nat) : Option (Nat × TypeId) :=
  match tab t with
  | some i => match i.k with | .struct fs => nth fs k | _ => none
  | none => none
theorem fieldOf_ok (hT : TabOk P tab) {t : TypeId} {k off ft : Nat} (h : fieldOf tab t k = some (off, ft)) :
    ∃ fields f, P.underlying t = some (.struct fields) ∧ fields[k]? = some f ∧ f.offset = off ∧ f.type = ft := by
  unfold fieldOf at h
  split at h
  · rename_i i hi
    have hu := (hT t i hi).und
    split at h
    · rename_i fs hk
      rw [hk] at hu
      obtain ⟨fields, hf, hm⟩ := hu
      rw [nth_eq, ← hm] at h
      simp only [List.getElem?_map, Option.map_eq_some_iff, Prod.mk.injEq] at h
      obtain ⟨f, h1, h2, h3⟩ := h
      exact ⟨fields, f, hf, by simpa using h1, h2, h3⟩
    · cases h
  · cases h
def aFieldAddr (tab : Tab) (t : TypeId) (x : AV) (k : Nat) : Option AV :=
  match fieldOf tab t k with
  | some (off, ft) => match tab ft with
    | some fi => match Nat.blt 0 fi.sz, x with
      | true, .ptr i sz e o => some (.ptr i sz e (o + off))
      | true, .ip cs => some (.ip (cs.drop off))
      | _, _ => none
    | none => none
  | none => none
theorem fieldAddr_sound (hT : TabOk P tab) {t : TypeId} {x r : AV} {k : Nat} (h : aFieldAddr tab t x k = some r) {v : Value} (hv : RV O w μ x v) :
    ∃ u, (Instr.fieldAt t v k).run P w = .ok u w ∧ RV O w μ r u := by
  unfold aFieldAddr at h
  split at h
  · rename_i off ft hf
    obtain ⟨fields, f, h1, h2, rfl, rfl⟩ := fieldOf_ok hT hf
    split at h
    · rename_i fi hfi
      have hz := (hT _ _ hfi).run_size (w := w)
      split at h
      · rename_i i sz e o hb
        injection h with h; subst h
        have hb : ¬ fi.sz = 0 := by rw [Nat.blt_eq] at hb; omega
        cases hv with
        | ptr hm =>
          refine ⟨_, ?_, .ptr hm⟩
          simp [Instr.fieldAt, run_underlying h1, h2, Instr.sureAddr, fieldPlace, hz, hb, Addr.add_mid, Nat.add_assoc]
      · rename_i cs hb
        injection h with h; subst h
        have hb : ¬ fi.sz = 0 := by rw [Nat.blt_eq] at hb; omega
        cases hv with
        | ip g1 g2 g3 g4 g5 =>
          rename_i g o vs
          refine ⟨.pointer (some ⟨g, o + f.offset, none⟩), ?_, .ip (vs := vs.drop f.offset) (by simp [g1]) (fun j a v ha hv => g2 (f.offset + j) a v (by simpa using ha) (by simpa using hv)) g3 g4 (fun j u hu => ?_)⟩
          · simp [Instr.fieldAt, run_underlying h1, h2, Instr.sureAddr, fieldPlace, hz, hb, Addr.add_mid]
          · rw [Nat.add_assoc]; exact g5 _ u (by simpa using hu)
      · cases h
    · cases h
  · cases h

theorem run_part_cells {t : TypeId} {i : TyI} (hi : TyOk P t i) {cs : Array Value} {off : Nat} {vs : List Value} (hl : vs.length = i.sz) (hc : ∀ j v, vs[j]? = some v → cs[off + j]? = some v) :
    (part t cs off).run P w = .ok (mkV i vs) w := by
  unfold part mkV
  rw [Sem.run_bind, hi.isAgg]
  simp only [Result.andThen_ok]
  by_cases hk : i.k.isAgg = true
  · rw [if_pos hk, if_pos hk]
    simp only [Sem.run_bind, hi.run_size, Result.andThen_ok, Sem.run_pure]
    congr 2
    apply Array.ext'
    rw [← hl]
    apply List.ext_getElem?
    intro j
    simp only [Array.toList_extract, List.extract_eq_take_drop, List.getElem?_take, List.getElem?_drop, Array.getElem?_toList]
    by_cases hj : j < vs.length
    · rw [if_pos (by omega), hc j _ (List.getElem?_eq_getElem hj), List.getElem?_eq_getElem hj]
    · rw [if_neg (by omega), List.getElem?_eq_none (by omega)]
  · rw [if_neg hk, if_neg hk]
    have h1 : vs.length = 1 := by rw [hl, hi.one (by simpa using hk)]
    obtain ⟨v, rfl⟩ : ∃ v, vs = [v] := by
      match vs, h1 with
      | [v], _ => exact ⟨v, rfl⟩
    have := hc 0 v rfl
    simp only [Nat.add_zero] at this
    simp [this]
/-- The cells of a value. -/
def cellsA : AV → Option (List AV)
  | .agg cs => some cs
  | .lit (.agg vs) => some (vs.toList.map .lit)
  | .lit (.tuple _) | .arr .. | .tup _ | .junk => none
  | a => some [a]
theorem cellsA_rv {a : AV} {cs : List AV} (h : cellsA a = some cs) {v : Value} (hv : RV O w μ a v) : RVs O w μ cs v.cells.toList := by
  have one : ∀ {a : AV} {v : Value}, RV O w μ a v → v.cells = #[v] → some [a] = some cs → RVs O w μ cs v.cells.toList := by
    intro a v hv hc h
    injection h with h; subst h
    rw [hc]; exact .cons hv .nil
  cases hv with
  | agg h1 h2 =>
    simp only [cellsA] at h
    injection h with h; subst h
    exact ⟨by simpa [Value.cells] using h1, fun j a v ha hv => h2 j a v ha (by simpa [Value.cells] using hv)⟩
  | lit _ =>
    cases v <;> simp only [cellsA] at h <;> first | exact one (.lit _) rfl h | (cases h; done) | skip
    injection h with h; subst h
    refine ⟨by simp [Value.cells], fun j a v ha hv => ?_⟩
    simp only [List.getElem?_map, Option.map_eq_some_iff] at ha
    obtain ⟨u, hu, rfl⟩ := ha
    simp only [Value.cells] at hv
    rw [hu] at hv; injection hv with hv; subst hv
    exact .lit _
  | junk | arr | tup => simp only [cellsA] at h; cases h
  | sl a0 a1 a2 a3 a4 a5 a6 a7 a8 => exact one (.sl a0 a1 a2 a3 a4 a5 a6 a7 a8) rfl h
  | rowNil a1 a2 => exact one (.rowNil a1 a2) rfl h
  | row a1 a2 a3 a4 a5 => exact one (.row a1 a2 a3 a4 a5) rfl h
  | rowE a1 a2 a3 => exact one (.rowE a1 a2 a3) rfl h
  | ptr a1 => exact one (.ptr a1) rfl h
  | ip a1 a2 a3 a4 a5 => exact one (.ip a1 a2 a3 a4 a5) rfl h
  | fn a1 a2 a3 a4 => exact one (.fn a1 a2 a3 a4) rfl h
  | iface a1 => exact one (.iface a1) rfl h
def aField (tab : Tab) (t : TypeId) (x : AV) (k : Nat) : Option (Prop × AV) :=
  match fieldOf tab t k with
  | some (off, ft) => match tab ft with
    | some fi => match x with
      | .agg cs => (mkT tab fi ((cs.drop off).take fi.sz)).map fun r => (off + fi.sz ≤ cs.length, r)
      | .lit (.agg vs) => (mkT tab fi (((vs.toList.map .lit).drop off).take fi.sz)).map fun r => (off + fi.sz ≤ vs.toList.length, r)
      | _ => none
    | none => none
  | none => none
theorem field_run (hT : TabOk P tab) {t k off ft : Nat} (hf : fieldOf tab t k = some (off, ft)) {fi : TyI} (hfi : tab ft = some fi) {cs : List AV} {r : AV} (hm : mkT tab fi ((cs.drop off).take fi.sz) = some r) (hq : off + fi.sz ≤ cs.length)
    {vs : List Value} (hv : RVs O w μ cs vs) : ∃ u, (Instr.field t (.agg vs.toArray) k).run P w = .ok u w ∧ RV O w μ r u := by
  obtain ⟨fields, f, h1, h2, rfl, rfl⟩ := fieldOf_ok hT hf
  have hr := (hv.drop f.offset).take fi.sz
  refine ⟨_, ?_, mkT_rv hm hr⟩
  have hp := run_part_cells (w := w) (hT _ _ hfi) (cs := vs.toArray) (off := f.offset) (vs := (vs.drop f.offset).take fi.sz) (by rw [← hr.1]; simp; omega) (fun j v hv => by
    rw [List.getElem?_take] at hv
    split at hv
    · simpa using hv
    · cases hv)
  simp [Instr.field, run_underlying h1, h2, asAgg, hp]
theorem field_sound (hT : TabOk P tab) {t : TypeId} {x r : AV} {k : Nat} {q : Prop} (h : aField tab t x k = some (q, r)) (hq : q) {v : Value} (hv : RV O w μ x v) :
    ∃ u, (Instr.field t v k).run P w = .ok u w ∧ RV O w μ r u := by
  unfold aField at h
  split at h
  · rename_i off ft hf
    split at h
    · rename_i fi hfi
      split at h
      · rename_i cs
        simp only [Option.map_eq_some_iff, Prod.mk.injEq] at h
        obtain ⟨r, hm, rfl, rfl⟩ := h
        cases hv with
        | agg g1 g2 => exact field_run hT hf hfi hm hq ⟨g1, g2⟩
      · rename_i vs
        simp only [Option.map_eq_some_iff, Prod.mk.injEq] at h
        obtain ⟨r, hm, rfl, rfl⟩ := h
        cases hv
        exact field_run hT hf hfi hm (by simpa using hq) (vs := vs.toList) ⟨by simp, fun j a v ha hv => by
          simp only [List.getElem?_map, Option.map_eq_some_iff] at ha
          obtain ⟨u, hu, rfl⟩ := ha
          rw [hu] at hv; injection hv with hv; subst hv
          exact .lit _⟩
      · cases h
    · cases h
  · cases h
def aIndexAddr (tab : Tab) (t : TypeId) (x ix : AV) : Ans :=
  match tab t, ix with
  | some i, .lit (.int _ z) => match i.k, x with
    | .slice e, .sl sz n _ f => match tab e with
      | some ei => match Nat.beq ei.sz sz with
        | true => some (0 ≤ z ∧ z < n, .ip (f z.toNat))
        | false => none
      | none => none
    | .slice e, .row id sz off n _ => match tab e with
      | some ei => match Nat.beq ei.sz sz with
        | true => some (0 ≤ z ∧ z < n, .ptr id sz (off + z.toNat) 0)
        | false => none
      | none => none
    | .arr n e, .ptr id sz k o => match tab e with
      | some ei => match Nat.beq ei.sz sz, Nat.beq o 0 with
        | true, true => some (0 ≤ z ∧ z < n, .ptr id sz (k + z.toNat) 0)
        | _, _ => some (0 ≤ z ∧ z < n, .ptr id sz k (o + z.toNat * ei.sz))
      | none => none
    | .arr n e, .ip cs => match tab e with
      | some ei => some (0 ≤ z ∧ z < n, .ip (cs.drop (z.toNat * ei.sz)))
      | none => none
    | _, _ => none
  | _, _ => none
theorem indexAddr_sound (hT : TabOk P tab) {t : TypeId} {x ix r : AV} {q : Prop} (h : aIndexAddr tab t x ix = some (q, r)) (hq : q) {v y : Value} (hv : RV O w μ x v) (hy : RV O w μ ix y) :
    ∃ u, (Instr.indexAt t v y).run P w = .ok u w ∧ RV O w μ r u := by
  unfold aIndexAddr at h
  split at h
  · rename_i i kd z hi
    have hu := (hT t i hi).und
    cases hy
    split at h
    · rename_i e sz n tt f hk
      rw [hk] at hu
      simp only [UndOk] at hu
      split at h
      · rename_i ei he
        have hz := (hT e ei he).run_size (w := w)
        split at h
        · rename_i hb
          obtain rfl := beq_t hb
          injection h with h; injection h with h1 h2; subst h1 h2
          obtain ⟨q1, q2⟩ := hq
          cases hv with
          | sl ho hc hm ht g1 g2 g3 gz hA =>
            rename_i A c vs
            obtain ⟨g, o, rfl, hg, hcell⟩ := hA (by omega)
            have hk0 : z.toNat < n := by omega
            have hle : (z.toNat + 1) * ei.sz ≤ vs.length := by rw [g1]; exact Nat.mul_le_mul_right _ (by omega)
            rw [Nat.add_mul] at hle
            refine ⟨.pointer (some ⟨g, o + z.toNat * ei.sz, none⟩), ?_, .ip (vs := (vs.drop (z.toNat * ei.sz)).take ei.sz) (by rw [g2 _ hk0]; simp; omega) (fun j a v ha hv => ?_) hg ?_ (fun j u hu => ?_)⟩
            · simp [Instr.indexAt, asIntOf, run_underlying hu, q1, q2, hz, Addr.add_mid]
            · rw [List.getElem?_take] at hv
              split at hv
              · exact g3 _ j a v hk0 ha (by simpa using hv)
              · cases hv
            · have h0 : 0 < vs.length := by omega
              exact World.block_lt_of_cell? w _ (hcell 0 _ (List.getElem?_eq_getElem h0))
            · rw [List.getElem?_take] at hu
              split at hu
              · have := hcell (z.toNat * ei.sz + j) u (by simpa using hu)
                rw [Nat.add_assoc]; exact this
              · cases hu
        · cases h
      · cases h
    · rename_i e id sz off n cap hk
      rw [hk] at hu
      simp only [UndOk] at hu
      split at h
      · rename_i ei he
        have hz := (hT e ei he).run_size (w := w)
        split at h
        · rename_i hb
          obtain rfl := beq_t hb
          injection h with h; injection h with h1 h2; subst h1 h2
          obtain ⟨q1, q2⟩ := hq
          cases hv with
          | rowNil h hc => omega
          | rowE => omega
          | row hm hn hc hcap hend =>
            refine ⟨_, ?_, .ptr hm⟩
            simp [Instr.indexAt, asIntOf, run_underlying hu, q1, q2, hz, Addr.add_mid, Nat.add_mul]
        · cases h
      · cases h
    · rename_i n e id sz k o hk
      rw [hk] at hu
      simp only [UndOk] at hu
      split at h
      · rename_i ei he
        have hz := (hT e ei he).run_size (w := w)
        split at h
        · rename_i hb ho
          obtain rfl := beq_t hb
          obtain rfl := beq_t ho
          injection h with h; injection h with h1 h2; subst h1 h2
          obtain ⟨q1, q2⟩ := hq
          cases hv with
          | ptr hm =>
            refine ⟨_, ?_, .ptr hm⟩
            simp [Instr.indexAt, asIntOf, run_underlying hu, q1, q2, hz, Addr.add_mid, Nat.add_mul, Instr.sureAddr]
        · injection h with h; injection h with h1 h2; subst h1 h2
          obtain ⟨q1, q2⟩ := hq
          cases hv with
          | ptr hm =>
            refine ⟨_, ?_, .ptr hm⟩
            simp [Instr.indexAt, asIntOf, run_underlying hu, q1, q2, hz, Addr.add_mid, Nat.add_assoc, Instr.sureAddr]
      · cases h
    · rename_i n e cs hk
      rw [hk] at hu
      simp only [UndOk] at hu
      split at h
      · rename_i ei he
        have hz := (hT e ei he).run_size (w := w)
        injection h with h; injection h with h1 h2; subst h1 h2
        obtain ⟨q1, q2⟩ := hq
        cases hv with
        | ip g1 g2 g3 g4 g5 =>
          rename_i g o vs
          refine ⟨.pointer (some ⟨g, o + z.toNat * ei.sz, none⟩), ?_, .ip (vs := vs.drop (z.toNat * ei.sz)) (by simp [g1]) (fun j a v ha hv => g2 _ a v (by simpa using ha) (by simpa using hv)) g3 g4 (fun j u hu => ?_)⟩
          · simp [Instr.indexAt, asIntOf, run_underlying hu, q1, q2, hz, Addr.add_mid, Instr.sureAddr]
          · rw [Nat.add_assoc]; exact g5 _ u (by simpa using hu)
      · cases h
    · cases h
  · cases h
end
end Go.Proofs.YthdckgcalooipaaDoor
namespace Go.Proofs.YthdckgcalooipaaDoor
section
open Go.RowKit
set_option linter.unusedVariables false
set_option linter.unusedSimpArgs false
set_option linter.unusedSectionVars false
variable {P : Program} {tab : Tab} {X : Nat → Prop} {H : List AObj} {μ : Mu} {w : World} {O : Nat → Prop}

def aIndex (tab : Tab) (t : TypeId) (x ix : AV) : Ans :=
  match tab t, ix with
  | some i, .lit (.int _ z) => match i.k, x with
    | .arr n e, .arr sz m f => match tab e with
      | some ei => match Nat.beq ei.sz sz, Nat.beq m n with
        | true, true => (mkT tab ei (f z.toNat)).map fun r => (0 ≤ z ∧ z < n, r)
        | _, _ => none
      | none => none
    | .arr n e, .agg cs => match tab e with
      | some ei => (mkT tab ei ((cs.drop (z.toNat * ei.sz)).take ei.sz)).map fun r => (0 ≤ z ∧ z < n ∧ cs.length = n * ei.sz, r)
      | none => none
    | _, _ => none
  | _, _ => none
theorem index_run (hT : TabOk P tab) {t n e : TypeId} {i ei : TyI} (hu : P.underlying t = some (.array n e)) (he : tab e = some ei) {z : Int} {kd : IntKind} (q1 : 0 ≤ z) (q2 : z < n) {vs : List Value} {cs : List AV} {r : AV} (hm : mkT tab ei cs = some r)
    {us : List Value} (hr : RVs O w μ cs us) (hl : us.length = ei.sz) (hc : ∀ j v, us[j]? = some v → vs[z.toNat * ei.sz + j]? = some v) :
    ∃ u, (Instr.index t (.agg vs.toArray) (.int kd z)).run P w = .ok u w ∧ RV O w μ r u := by
  have hz := (hT e ei he).run_size (w := w)
  have hp := run_part_cells (w := w) (hT e ei he) (cs := vs.toArray) (off := z.toNat * ei.sz) hl (by simpa using hc)
  refine ⟨_, ?_, mkT_rv hm hr⟩
  simp [Instr.index, asIntOf, run_underlying hu, q1, q2, hz, hp]
theorem index_sound (hT : TabOk P tab) {t : TypeId} {x ix r : AV} {q : Prop} (h : aIndex tab t x ix = some (q, r)) (hq : q) {v y : Value} (hv : RV O w μ x v) (hy : RV O w μ ix y) :
    ∃ u, (Instr.index t v y).run P w = .ok u w ∧ RV O w μ r u := by
  unfold aIndex at h
  split at h
  · rename_i i kd z hi
    have hu := (hT t i hi).und
    cases hy
    split at h
    · rename_i n e sz m f hk
      rw [hk] at hu
      split at h
      · rename_i ei he
        split at h
        · rename_i hb hb2
          obtain rfl := beq_t hb
          obtain rfl := beq_t hb2
          simp only [Option.map_eq_some_iff, Prod.mk.injEq] at h
          obtain ⟨r, hm, rfl, rfl⟩ := h
          obtain ⟨q1, q2⟩ := hq
          cases hv with
          | arr g0 g1 g2 g3 =>
            rename_i vs
            have hk0 : z.toNat < m := by omega
            have hle : (z.toNat + 1) * ei.sz ≤ vs.length := by rw [g1]; exact Nat.mul_le_mul_right _ (by omega)
            rw [Nat.add_mul] at hle
            have hg : ∀ j v, ((vs.drop (z.toNat * ei.sz)).take ei.sz)[j]? = some v → vs[z.toNat * ei.sz + j]? = some v := fun j v hv => by
              rw [List.getElem?_take] at hv
              split at hv
              · simpa using hv
              · cases hv
            exact index_run hT (i := i) hu he q1 q2 hm (us := (vs.drop (z.toNat * ei.sz)).take ei.sz) ⟨by rw [g2 _ hk0]; simp; omega, fun j a v ha hv => (g3 _ j a v hk0 ha (hg j v hv)).up⟩ (by simp; omega) hg
        · cases h
      · cases h
    · rename_i n e cs hk
      rw [hk] at hu
      split at h
      · rename_i ei he
        simp only [Option.map_eq_some_iff, Prod.mk.injEq] at h
        obtain ⟨r, hm, rfl, rfl⟩ := h
        obtain ⟨q1, q2, q3⟩ := hq
        cases hv with
        | agg g1 g2 =>
          rename_i vs
          have hle : (z.toNat + 1) * ei.sz ≤ vs.length := by rw [← g1, q3]; exact Nat.mul_le_mul_right _ (by omega)
          rw [Nat.add_mul] at hle
          refine index_run hT (i := i) hu he q1 q2 hm (us := (vs.drop (z.toNat * ei.sz)).take ei.sz) (RVs.take (RVs.drop (cs := cs) (vs := vs) ⟨g1, g2⟩ _) _) (by simp; omega) fun j v hv => by
            rw [List.getElem?_take] at hv
            split at hv
            · simpa using hv
            · cases hv
      · cases h
    · cases h
  · cases h

/-! cuts -/
def aBound : Option AV → Option (Option Int)
  | none => some none
  | some (.lit (.int _ z)) => some (some z)
  | some _ => none
/-- l ≤ h ≤ n, as the bounds say; where a third bound is given, it is the second one's. -/
def cutLo (lo : Option Int) : Nat := match lo with | none => 0 | some z => z.toNat
def cutHi (hi : Option Int) (n : Nat) : Nat := match hi with | none => n | some z => z.toNat
def cutLen (lo hi : Option Int) (n : Nat) : Nat := match lo, hi with | none, none => n | none, some h => h.toNat | some l, none => n - l.toNat | some l, some h => h.toNat - l.toNat
def cutF (lo : Option Int) (f : Nat → List AV) : Nat → List AV := match lo with | none => f | some z => fun k => f (z.toNat + k)
def cutOk (lo hi mx : Option Int) (n : Nat) : Prop := match lo, hi, mx with
  | none, none, none => True
  | none, some h, none => 0 ≤ h ∧ h ≤ n
  | some l, none, none => 0 ≤ l ∧ l ≤ n
  | some l, some h, none => 0 ≤ l ∧ l ≤ h ∧ h ≤ n
  | none, some h, some m => 0 ≤ h ∧ h ≤ n ∧ m = h
  | some l, some h, some m => 0 ≤ l ∧ l ≤ h ∧ h ≤ n ∧ m = h
  | _, none, some _ => False
theorem cutLen_eq (lo hi : Option Int) (n : Nat) : cutLen lo hi n = cutHi hi n - cutLo lo := by cases lo <;> cases hi <;> simp [cutLen, cutHi, cutLo]
theorem cutF_eq (lo : Option Int) (f : Nat → List AV) (k : Nat) : cutF lo f k = f (cutLo lo + k) := by cases lo <;> simp [cutF, cutLo]
theorem cutOk_le {lo hi mx : Option Int} {n : Nat} (h : cutOk lo hi mx n) : cutLo lo ≤ cutHi hi n ∧ cutHi hi n ≤ n := by
  cases lo <;> cases hi <;> cases mx <;> simp only [cutOk] at h <;> simp only [cutLo, cutHi] <;> first | exact h.elim | omega
/-- The new capacity's end. -/
def cutCap (hi mx : Option Int) (c : Nat) (n : Nat) : Nat := match mx with | none => c | some _ => cutHi hi n
theorem run_bounds {lo hi mx : Option AV} {l h m : Option Int} (hl : aBound lo = some l) (hh : aBound hi = some h) (hm : aBound mx = some m) {n c : Nat} (hc : n ≤ c) (ok : cutOk l h m n) {b : Bool} {lv hv mv : Option Value}
    (rl : ∀ a, lo = some a → ∃ v, lv = some v ∧ RV O w μ a v) (rln : lo = none → lv = none) (rh : ∀ a, hi = some a → ∃ v, hv = some v ∧ RV O w μ a v) (rhn : hi = none → hv = none)
    (rm : ∀ a, mx = some a → ∃ v, mv = some v ∧ RV O w μ a v) (rmn : mx = none → mv = none) :
    (Instr.sliceBounds b n c lv hv mv).run P w = .ok (cutLo l, cutHi h n, cutCap h m c n) w := by
  have get : ∀ {x : Option AV} {z : Option Int} {v : Option Value}, aBound x = some z → (∀ a, x = some a → ∃ u, v = some u ∧ RV O w μ a u) → (x = none → v = none) → (z = none ∧ v = none) ∨ ∃ k i, z = some i ∧ v = some (.int k i) := by
    intro x z v hx h1 h2
    unfold aBound at hx
    split at hx
    · injection hx with hx; exact .inl ⟨hx.symm, h2 rfl⟩
    · rename_i k i
      injection hx with hx
      obtain ⟨u, rfl, hu⟩ := h1 _ rfl
      cases hu
      exact .inr ⟨k, i, hx.symm, rfl⟩
    · cases hx
  rcases get hl rl rln with ⟨rfl, rfl⟩ | ⟨kl, il, rfl, rfl⟩ <;> rcases get hh rh rhn with ⟨rfl, rfl⟩ | ⟨kh, ih, rfl, rfl⟩ <;> rcases get hm rm rmn with ⟨rfl, rfl⟩ | ⟨km, im, rfl, rfl⟩ <;> simp only [cutOk] at ok
  · simp [Instr.sliceBounds, cutLo, cutHi, cutCap]
  · simp [Instr.sliceBounds, cutLo, cutHi, cutCap, run_sliceBound, ok, (by omega : ih ≤ (c : Int))]
  · obtain ⟨o1, o2, rfl⟩ := ok
    have e : (im.toNat : Int) = im := Int.toNat_of_nonneg o1
    simp [Instr.sliceBounds, cutLo, cutHi, cutCap, run_sliceBound, o1, e, (by omega : im ≤ (c : Int))]
  · obtain ⟨o1, o2⟩ := ok
    simp [Instr.sliceBounds, cutLo, cutHi, cutCap, run_sliceBound, o1, o2]
  · obtain ⟨o1, o2, o3⟩ := ok
    have e : (ih.toNat : Int) = ih := Int.toNat_of_nonneg (by omega)
    simp [Instr.sliceBounds, cutLo, cutHi, cutCap, run_sliceBound, o1, o2, e, (by omega : 0 ≤ ih), (by omega : ih ≤ (c : Int))]
  · obtain ⟨o1, o2, o3, rfl⟩ := ok
    have e : (im.toNat : Int) = im := Int.toNat_of_nonneg (by omega)
    simp [Instr.sliceBounds, cutLo, cutHi, cutCap, run_sliceBound, o1, o2, e, (by omega : 0 ≤ im), (by omega : im ≤ (c : Int))]
def cutOff (lo : Option Int) (off : Nat) : Nat := match lo with | none => off | some z => off + z.toNat
def cutRoom (mx : Option Int) (cap : Option Nat) (n l : Nat) : Option Nat := match mx, cap with | some _, _ => some n | none, none => none | none, some c => some (c - l)
def aSlice (tab : Tab) (H : List AObj) (t : TypeId) (x : AV) (lo hi mx : Option AV) : Ans :=
  match tab t, aBound lo, aBound hi, aBound mx with
  | some i, some l, some h, some m => match i.k, x with
    | .slice e, .sl sz n tt f => match tab e with
      | some ei => match Nat.beq ei.sz sz with
        | true => some (cutOk l h m n, .sl sz (cutLen l h n) (match m, h with | some _, _ => true | none, none => tt | none, some _ => false) (cutF l f))
        | false => none
      | none => none
    | .slice e, .lit (.slice none 0 0) => match tab e with
      | some _ => some (cutOk l h m 0, .lit (.slice none 0 0))
      | none => none
    | .slice e, .row id sz off n cap => match tab e with
      | some ei => match Nat.beq ei.sz sz with
        | true => some (cutOk l h m n, .row id sz (cutOff l off) (cutLen l h n) (cutRoom m cap (cutLen l h n) (cutLo l)))
        | false => none
      | none => none
    | .arr N e, .ptr id sz k o => match tab e, nth H id with
      | some ei, some ob => match Nat.beq ei.sz sz, Nat.beq k 0, Nat.beq o 0, Nat.beq ob.n N, ob.st, Nat.beq ob.sz sz with
        | true, true, true, true, 0, true => some (cutOk l h m N ∧ cutLo l < N, .row id sz (cutLo l) (cutLen l h N) (some (cutCap h m N N - cutLo l)))
        | _, _, _, _, _, _ => none
      | _, _ => none
    | .str, .lit (.string s) => some (cutOk l h m s.size ∧ m = none, .lit (.string (s.extract (cutLo l) (cutHi h s.size))))
    | _, _ => none
  | _, _, _, _ => none
theorem slice_sound (hT : TabOk P tab) {t : TypeId} {x r : AV} {lo hi mx : Option AV} {q : Prop} (hs : aSlice tab H t x lo hi mx = some (q, r)) (hq : q) (hH : HRel μ X H w) {v : Value} (hv0 : RV (OO X H μ) w μ x v) {lv hv mv : Option Value}
    (rl : ∀ a, lo = some a → ∃ v, lv = some v ∧ RV (OO X H μ) w μ a v) (rln : lo = none → lv = none) (rh : ∀ a, hi = some a → ∃ v, hv = some v ∧ RV (OO X H μ) w μ a v) (rhn : hi = none → hv = none)
    (rm : ∀ a, mx = some a → ∃ v, mv = some v ∧ RV (OO X H μ) w μ a v) (rmn : mx = none → mv = none) :
    ∃ u, (Instr.sliceAt t v lv hv mv).run P w = .ok u w ∧ RV (OO X H μ) w μ r u := by
  unfold aSlice at hs
  split at hs
  · rename_i i l h m hi1 hl hh hm
    have hu := (hT t i hi1).und
    split at hs
    · rename_i e sz n tt f hk
      rw [hk] at hu
      simp only [UndOk] at hu
      split at hs
      · rename_i ei he
        have hz := (hT e ei he).run_size (w := w)
        split at hs
        · rename_i hb
          obtain rfl := beq_t hb
          injection hs with hs; injection hs with h1 h2; subst h1 h2
          cases hv0 with
          | sl go g0 gm gt g1 g2 g3 gz hA =>
            rename_i A c vs
            obtain ⟨le1, le2⟩ := cutOk_le hq
            have hrun := run_bounds (P := P) (b := true) hl hh hm g0 hq rl rln rh rhn rm rmn
            have hcc : cutHi h n ≤ cutCap h m c n ∧ cutCap h m c n ≤ c := by unfold cutCap; split <;> omega
            refine ⟨.slice (if cutCap h m c n = cutLo l then A else A.map (·.add (cutLo l * ei.sz))) (cutHi h n - cutLo l) (cutCap h m c n - cutLo l), ?_, ?_⟩
            · simp [Instr.sliceAt, run_underlying hu, Instr.slice, hrun, hz]
            · rw [cutLen_eq]
              have hle : (cutLo l + (cutHi h n - cutLo l)) * ei.sz ≤ vs.length := by rw [g1]; exact Nat.mul_le_mul_right _ (by omega)
              rw [Nat.add_mul] at hle
              refine .sl (vs := (vs.drop (cutLo l * ei.sz)).take ((cutHi h n - cutLo l) * ei.sz)) (fun u hu => go u (List.mem_of_mem_drop (List.mem_of_mem_take hu))) (by omega) (by omega) ?_ (by simp; omega) (fun k hk => by rw [cutF_eq]; exact g2 _ (by omega)) (fun k j a v hk ha hv => ?_) gz fun hn => ?_
              · intro ht
                cases m with
                | some m => simp [cutCap]
                | none =>
                  cases h with
                  | none => simp at ht; simp [cutCap, cutHi, gt ht]
                  | some h => simp at ht
              · rw [cutF_eq] at ha
                rw [List.getElem?_take] at hv
                split at hv
                · exact g3 _ j a v (by omega) ha (by rw [Nat.add_mul, Nat.add_assoc]; simpa using hv)
                · cases hv
              · obtain ⟨g, o, rfl, hg, hcell⟩ := hA (by omega)
                rw [if_neg (by omega)]
                refine ⟨g, o + cutLo l * ei.sz, by simp [Addr.add_mid], hg, fun j u hu => ?_⟩
                rw [List.getElem?_take] at hu
                split at hu
                · rw [Nat.add_assoc]; exact hcell _ u (by simpa using hu)
                · cases hu
        · cases hs
      · cases hs
    · rename_i e hk
      rw [hk] at hu
      simp only [UndOk] at hu
      split at hs
      · rename_i ei he
        have hz := (hT e ei he).run_size (w := w)
        injection hs with hs; injection hs with h1 h2; subst h1 h2
        cases hv0
        obtain ⟨le1, le2⟩ := cutOk_le hq
        have hrun := run_bounds (P := P) (b := true) hl hh hm (Nat.le_refl 0) hq rl rln rh rhn rm rmn
        have hcc : cutCap h m 0 0 = 0 := by unfold cutCap; split <;> omega
        have h1 : cutLo l = 0 := by omega
        have h2 : cutHi h 0 = 0 := by omega
        refine ⟨_, ?_, .lit _⟩
        simp [Instr.sliceAt, run_underlying hu, Instr.slice, hrun, hz, hcc, h1, h2]
      · cases hs
    · rename_i e id sz off n cap hk
      rw [hk] at hu
      simp only [UndOk] at hu
      split at hs
      · rename_i ei he
        have hz := (hT e ei he).run_size (w := w)
        split at hs
        · rename_i hb
          obtain rfl := beq_t hb
          injection hs with hs; injection hs with h1 h2; subst h1 h2
          obtain ⟨le1, le2⟩ := cutOk_le hq
          rw [cutLen_eq]
          have hoff : cutOff l off = off + cutLo l := by cases l <;> rfl
          rw [hoff]
          cases hv0 with
          | rowNil g1 g2 =>
            have hrun := run_bounds (P := P) (b := true) hl hh hm (Nat.le_refl 0) hq rl rln rh rhn rm rmn
            have hcc : cutCap h m 0 0 = 0 := by unfold cutCap; split <;> omega
            have h1 : cutLo l = 0 := by omega
            have h2 : cutHi h 0 = 0 := by omega
            rw [h1, h2]
            refine ⟨.slice none 0 0, ?_, .rowNil g1 ?_⟩
            · simp [Instr.sliceAt, run_underlying hu, Instr.slice, hrun, hz, hcc, h1, h2]
            · unfold cutRoom
              split
              · exact .inr rfl
              · exact .inl rfl
              · rcases g2 with g2 | g2 <;> simp_all
          | rowE g1 g2 g3 =>
            rename_i b mm oo
            have hrun := run_bounds (P := P) (b := true) hl hh hm (Nat.le_refl 0) hq rl rln rh rhn rm rmn
            have hcc : cutCap h m 0 0 = 0 := by unfold cutCap; split <;> omega
            have h1 : cutLo l = 0 := by omega
            have h2 : cutHi h 0 = 0 := by omega
            rw [h1, h2]
            refine ⟨.slice (some ⟨b, oo, none⟩) 0 0, ?_, .rowE g1 ?_ (by omega)⟩
            · simp [Instr.sliceAt, run_underlying hu, Instr.slice, hrun, hz, hcc, h1, h2]
            · unfold cutRoom
              split
              · exact .inr rfl
              · exact .inl rfl
              · rcases g2 with g2 | g2 <;> simp_all
          | row g1 g2 g3 g4 g5 =>
            rename_i b mm c
            have hrun := run_bounds (P := P) (b := true) hl hh hm g2 hq rl rln rh rhn rm rmn
            have hcc : cutHi h n ≤ cutCap h m c n ∧ cutCap h m c n ≤ c := by unfold cutCap; split <;> omega
            have hcap : ∀ q, cutRoom m cap (cutHi h n - cutLo l) (cutLo l) = some q → cutCap h m c n - cutLo l = q := by
              intro q hq'
              unfold cutRoom at hq'
              cases m with
              | some m => simp at hq'; simp [cutCap, hq']
              | none =>
                cases cap with
                | none => cases hq'
                | some cc => simp at hq'; simp [cutCap, g4 cc rfl, hq']
            have hcend : cutRoom m cap (cutHi h n - cutLo l) (cutLo l) = none → off + cutLo l + (cutCap h m c n - cutLo l) = mm := by
              intro hq'
              unfold cutRoom at hq'
              cases m with
              | some m => simp at hq'
              | none =>
                cases cap with
                | none => have := g5 rfl; simp only [cutCap] at hcc ⊢; omega
                | some cc => simp at hq'
            by_cases hend : cutCap h m c n = cutLo l
            · have h0 : cutHi h n - cutLo l = 0 := by omega
              refine ⟨.slice (some ⟨b, off * ei.sz, none⟩) (cutHi h n - cutLo l) (cutCap h m c n - cutLo l), ?_, ?_⟩
              · simp [Instr.sliceAt, run_underlying hu, Instr.slice, hrun, hz, hend]
              · by_cases hl0 : cutLo l = 0
                · rw [hl0] at hcap hcend ⊢
                  rw [hl0] at h0
                  exact .row (off := off + 0) g1 (by omega) (by omega) (by simpa using hcap) (by simpa using hcend)
                · rw [h0, show cutCap h m c n - cutLo l = 0 by omega]
                  rw [h0, show cutCap h m c n - cutLo l = 0 by omega] at hcap
                  refine .rowE g1 ?_ (by omega)
                  unfold cutRoom at hcap ⊢
                  split
                  · exact .inr rfl
                  · exact .inl rfl
                  · have := hcap _ rfl; exact .inr (by rw [← this])
            · refine ⟨.slice (some ⟨b, (off + cutLo l) * ei.sz, none⟩) (cutHi h n - cutLo l) (cutCap h m c n - cutLo l), ?_, .row g1 (by omega) (by omega) hcap hcend⟩
              simp [Instr.sliceAt, run_underlying hu, Instr.slice, hrun, hz, hend, Addr.add_mid, Nat.add_mul]
        · cases hs
      · cases hs
    · rename_i N e id sz k o hk
      rw [hk] at hu
      simp only [UndOk] at hu
      split at hs
      · rename_i ei ob he hob
        have hz := (hT e ei he).run_size (w := w)
        split at hs
        · rename_i hb1 hb2 hb3 hb4 hst hb5
          obtain rfl := beq_t hb1
          obtain rfl := beq_t hb2
          obtain rfl := beq_t hb3
          have hb4 := beq_t hb4
          have hb5 := beq_t hb5
          injection hs with hs; injection hs with h1 h2; subst h1 h2
          obtain ⟨hq, hlt⟩ := hq
          cases hv0 with
          | ptr g1 =>
            rename_i b mm
            obtain ⟨_, cur, hin⟩ := hH.at_ hob (by omega) g1
            have hnm := hin.nle
            obtain ⟨le1, le2⟩ := cutOk_le hq
            have hrun := run_bounds (P := P) (b := false) hl hh hm (Nat.le_refl N) hq rl rln rh rhn rm rmn
            have hcc : cutHi h N ≤ cutCap h m N N ∧ cutCap h m N N ≤ N := by unfold cutCap; split <;> omega
            rw [cutLen_eq]
            refine ⟨.slice (some (if cutCap h m N N = cutLo l then ⟨b, 0, none⟩ else ⟨b, cutLo l * ei.sz, none⟩)) (cutHi h N - cutLo l) (cutCap h m N N - cutLo l), ?_, ?_⟩
            · simp [Instr.sliceAt, run_underlying hu, hrun, hz, Instr.sureAddr, Addr.add_mid]
            · by_cases hend : cutCap h m N N = cutLo l
              · by_cases hl0 : cutLo l = 0
                · rw [if_pos hend, hl0]
                  have := RV.row (O := OO X H μ) (w := w) (sz := ei.sz) (off := 0) (n := cutHi h N - 0) (c := cutCap h m N N - 0) (cap := some (cutCap h m N N - 0)) g1 (by omega) (by omega) (by simp) (fun h => by cases h)
                  simpa using this
                · rw [if_pos hend, show cutHi h N - cutLo l = 0 by omega, show cutCap h m N N - cutLo l = 0 by omega]
                  exact .rowE g1 (.inr rfl) hl0
              · rw [if_neg hend]
                exact .row g1 (by omega) (by omega) (by simp) (fun h => by cases h)
        · cases hs
      · cases hs
    · rename_i s hk
      rw [hk] at hu
      simp only [UndOk] at hu
      injection hs with hs; injection hs with h1 h2; subst h1 h2
      cases hv0
      obtain ⟨hq, rfl⟩ := hq
      have hmx : mx = none := by
        cases mx with
        | none => rfl
        | some a => unfold aBound at hm; split at hm <;> simp_all
      subst hmx
      have hrun := run_bounds (P := P) (b := false) hl hh hm (Nat.le_refl s.size) hq rl rln rh rhn rm rmn
      have := rmn rfl
      subst this
      refine ⟨_, ?_, .lit _⟩
      simp [Instr.sliceAt, run_underlying hu, Instr.slice, hrun]
    · cases hs
  · cases hs
end
end Go.Proofs.YthdckgcalooipaaDoor
namespace Go.Proofs.YthdckgcalooipaaDoor
section
open Go.RowKit
set_option linter.unusedVariables false
set_option linter.unusedSimpArgs false
set_option linter.unusedSectionVars false
variable {P : Program} {tab : Tab} {X : Nat → Prop} {H : List AObj} {μ : Mu} {w : World} {O : Nat → Prop}

def splice {α : Type} (cells : List α) (off : Nat) (cs : List α) : List α := cells.take off ++ cs ++ cells.drop (off + cs.length)
theorem splice_length {α : Type} (cells : List α) (off : Nat) (cs : List α) (h : off + cs.length ≤ cells.length) : (splice cells off cs).length = cells.length := by
  simp [splice]; omega
theorem RVs.splice_ {cells cs : List AV} {us vs : List Value} {off : Nat} (h : RVs O w μ cells us) (h' : RVs O w μ cs vs) : RVs O w μ (splice cells off cs) (splice us off vs) := by
  unfold splice
  rw [h'.1]
  exact ((h.take _).append h').append (h.drop _)
theorem splice_set (L : List Value) (k : Nat) (v : Value) (vs : List Value) (h : k < L.length) : splice (L.set k v) (k + 1) vs = splice L k (v :: vs) := by
  unfold splice
  have h1 : (L.set k v).take (k + 1) = L.take k ++ [v] := by
    rw [List.take_succ_eq_append_getElem (by simpa using h), List.getElem_set_self, List.take_set_of_le (Nat.le_refl _)]
  rw [h1, List.drop_set_of_lt (by omega)]
  simp [Nat.add_comm, Nat.add_left_comm]
theorem fold_set (off : Nat) : ∀ (vs : List Value) (j : Nat) (cells : Array Value), off + j + vs.length ≤ cells.size →
    (((vs.zipIdx j).foldl (fun cs (c, j) => cs.setIfInBounds (off + j) c) cells : Array Value)).toList = splice cells.toList (off + j) vs
  | [], j, cells, h => by simp [splice]
  | v :: vs, j, cells, h => by
    simp only [List.zipIdx_cons, List.foldl_cons]
    rw [fold_set off vs (j + 1) _ (by simp at h ⊢; omega)]
    simp at h
    rw [Array.toList_setIfInBounds]
    exact splice_set _ _ v vs (by simp; omega)
def fillA (place : Nat → Option (Nat × Nat)) : List AV → List (Nat × AV) → Option (List AV)
  | cells, [] => some cells
  | cells, (i, a) :: rest => match place i, cellsA a with
    | some (off, size), some cs => match Nat.beq cs.length size, Nat.ble (off + size) cells.length with
      | true, true => fillA place (splice cells off cs) rest
      | _, _ => none
    | _, _ => none
theorem fill_sound {place place' : Nat → Option (Nat × Nat)} (hp : ∀ i x, place i = some x → place' i = some x) : ∀ (parts : List (Nat × AV)) (cells r : List AV) (us : Array Value) (vparts : List (Nat × Value)), fillA place cells parts = some r → RVs O w μ cells us.toList →
    parts.length = vparts.length → (∀ (j : Nat) i a i' v, parts[j]? = some (i, a) → vparts[j]? = some (i', v) → i = i' ∧ RV O w μ a v) → ∃ rs : Array Value, Instr.fill place' us vparts = some rs ∧ RVs O w μ r rs.toList
  | [], cells, r, us, [], h, hr, hl, hv => by
    simp only [fillA] at h
    injection h with h; subst h
    exact ⟨us, rfl, hr⟩
  | [], cells, r, us, _ :: _, h, hr, hl, hv => by simp at hl
  | _ :: _, cells, r, us, [], h, hr, hl, hv => by simp at hl
  | (i, a) :: rest, cells, r, us, (i', v) :: vrest, h, hr, hl, hv => by
    obtain ⟨rfl, hav⟩ := hv 0 i a i' v rfl rfl
    simp only [fillA] at h
    split at h
    · rename_i off size cs hpl hcs
      split at h
      · rename_i h1 h2
        have h1 := beq_t h1
        have h2 := Nat.ble_eq.mp h2
        have hc := cellsA_rv hcs hav
        have hsz : v.cells.size = size := by rw [← h1, hc.1]; simp
        have hus : us.size = cells.length := by rw [hr.1]; simp
        have hf := fold_set off v.cells.toList 0 us (by simp; omega)
        simp only [Nat.add_zero] at hf
        have hz : v.cells.zipIdx.foldl (fun cs (c, j) => cs.setIfInBounds (off + j) c) us = (v.cells.toList.zipIdx 0).foldl (fun cs (c, j) => cs.setIfInBounds (off + j) c) us := by
          rw [← Array.foldl_toList, Array.toList_zipIdx]
        obtain ⟨rs, g1, g2⟩ := fill_sound hp rest _ r (v.cells.zipIdx.foldl (fun cs (c, j) => cs.setIfInBounds (off + j) c) us) vrest h (by rw [hz, hf]; exact hr.splice_ hc) (by simpa using hl) fun j i a i' v ha hv' => hv (j + 1) i a i' v (by simpa using ha) (by simpa using hv')
        refine ⟨rs, ?_, g2⟩
        simp only [Instr.fill, hp _ _ hpl, hsz]
        rw [if_neg (by simp; omega)]
        exact g1
      · cases h
    · cases h
theorem getElem_flatten_replicate {α : Type} (n : Nat) (l : List α) (k j : Nat) (hk : k < n) (hj : j < l.length) : (List.replicate n l).flatten[k * l.length + j]? = l[j]? := by
  induction n generalizing k with
  | zero => omega
  | succ n ih =>
    rw [List.replicate_succ, List.flatten_cons]
    cases k with
    | zero => rw [List.getElem?_append_left (by omega)]; simp
    | succ k =>
      rw [List.getElem?_append_right (by rw [Nat.add_mul]; omega)]
      rw [show (k + 1) * l.length + j - l.length = k * l.length + j by rw [Nat.add_mul]; omega]
      exact ih k (by omega)
def aBuild (tab : Tab) (t : TypeId) (parts : List (Nat × AV)) : Option AV :=
  match tab t with
  | some i => match i.k with
    | .struct fs => if (fs.all fun p => (tab p.2).isSome) = true then (fillA (fun k => (nth fs k).bind fun p => (tab p.2).map fun fi => (p.1, fi.sz)) (i.zero.map .lit) parts).map .agg else none
    | .arr n e => match tab e with
      | some ei => match parts with
        | [] => match Nat.beq i.zero.length ei.sz with
          | true => some (.arr ei.sz n fun _ => i.zero.map .lit)
          | false => none
        | _ => (fillA (fun k => some (k * ei.sz, ei.sz)) ((List.replicate n (i.zero.map AV.lit)).flatten) parts).map .agg
      | none => none
    | _ => none
  | none => none
theorem RVs.lits (vs : List Value) : RVs O w μ (vs.map .lit) vs := ⟨by simp, fun j a v ha hv => by
  simp only [List.getElem?_map, Option.map_eq_some_iff] at ha
  obtain ⟨u, hu, rfl⟩ := ha
  rw [hu] at hv; injection hv with hv; subst hv
  exact .lit _⟩
theorem mapM_size {fields : Array Field} {szs : List (Nat × Nat)} : ∀ (l : List Field) (szs : List (Nat × Nat)), l.length = szs.length → (∀ (j : Nat) (f : Field) (p : Nat × Nat), l[j]? = some f → szs[j]? = some p → (do pure (f.offset, ← sizeOf f.type) : Sem (Nat × Nat)).run P w = .ok p w) →
    (l.mapM fun f => (do pure (f.offset, ← sizeOf f.type) : Sem (Nat × Nat))).run P w = .ok szs w
  | [], [], _, _ => by simp
  | [], _ :: _, h, _ => by simp at h
  | _ :: _, [], h, _ => by simp at h
  | f :: l, p :: szs, h, hr => by
    have h0 := hr 0 f p rfl rfl
    have ih := mapM_size (fields := fields) (szs := szs) l szs (by simpa using h) fun j f p hf hp => hr (j + 1) f p (by simpa using hf) (by simpa using hp)
    rw [List.mapM_cons, Sem.run_bind, h0]
    simp only [Result.andThen_ok, Sem.run_bind, ih, Sem.run_pure]
theorem build_sound (hT : TabOk P tab) {t : TypeId} {parts : List (Nat × AV)} {r : AV} (h : aBuild tab t parts = some r) {vparts : List (Nat × Value)} (hl : parts.length = vparts.length)
    (hv : ∀ (j : Nat) i a i' v, parts[j]? = some (i, a) → vparts[j]? = some (i', v) → i = i' ∧ RV O w μ a v) : ∃ u, (Instr.build t vparts.toArray).run P w = .ok u w ∧ RV O w μ r u := by
  unfold aBuild at h
  split at h
  · rename_i i hi
    have hty := hT t i hi
    obtain ⟨z, hz, hzc⟩ := hty.zero (w := w)
    have hu := hty.und
    split at h
    · rename_i fs hk
      rw [hk] at hu
      obtain ⟨fields, hf, hm⟩ := hu
      split at h
      · rename_i hall
        simp only [Option.map_eq_some_iff] at h
        obtain ⟨cs, hfill, rfl⟩ := h
        have hzc' : z.cells.toList = i.zero := by rw [hzc]; unfold TyI.zeroCells; rw [hk]
        let szs : List (Nat × Nat) := fs.map fun p => (p.1, ((tab p.2).map (·.sz)).getD 0)
        have hrun := mapM_size (P := P) (w := w) (fields := fields) (szs := szs) fields.toList szs (by simp [szs, ← hm]) fun j f p hj hp => by
          simp only [szs, ← hm, List.map_map, List.getElem?_map, hj, Option.map_some, Option.some.injEq, Function.comp] at hp
          have hmem : (f.offset, f.type) ∈ fs := by rw [← hm]; exact List.mem_map.2 ⟨f, List.mem_of_getElem? hj, rfl⟩
          have hs := List.all_eq_true.1 hall _ hmem
          obtain ⟨fi, hfi⟩ := Option.isSome_iff_exists.1 hs
          simp only at hfi
          rw [hfi] at hp
          rw [← hp]
          simp [(hT _ _ hfi).run_size]
        obtain ⟨rs, g1, g2⟩ := fill_sound (w := w) (O := O) (μ := μ) (place' := fun k => szs.toArray[k]?) (fun k x hx => by
          simp only [Option.bind_eq_some_iff, Option.map_eq_some_iff] at hx
          obtain ⟨p, hp, fi, hfi, rfl⟩ := hx
          rw [nth_eq] at hp
          simp [szs, hp, hfi]) parts _ cs z.cells vparts hfill (by rw [hzc']; exact RVs.lits _) hl hv
        refine ⟨.agg rs, ?_, .agg g2.1 g2.2⟩
        have hmm : (fields.mapM fun f => (do pure (f.offset, ← sizeOf f.type) : Sem (Nat × Nat))).run P w = .ok szs.toArray w := by
          rw [Array.mapM_eq_mapM_toList, Sem.run_map, hrun]; rfl
        simp only [Instr.build, Sem.run_bind, hz, Result.andThen_ok, run_underlying hf, hmm, g1, Sem.run_pure]
      · cases h
    · rename_i n e hk
      rw [hk] at hu
      split at h
      · rename_i ei he
        split at h
        · split at h
          · rename_i hb
            injection h with h
            subst h
            have hzl := beq_t hb
            have hv0 : vparts = [] := by simpa using hl.symm
            subst hv0
            have hzc' : z.cells.toList = (List.replicate n i.zero).flatten := by rw [hzc]; unfold TyI.zeroCells; rw [hk]
            refine ⟨.agg z.cells, ?_, ?_⟩
            · simp only [UndOk] at hu
              simp only [Instr.build, Sem.run_bind, hz, Result.andThen_ok, run_underlying hu, (hT e ei he).run_size, Sem.run_pure]
              simp [Instr.fill]
            · have e1 : z.cells = (z.cells.toList).toArray := by simp
              rw [e1]
              refine .arr (fun u hu => hty.zone u (by rw [← hzc]; exact hu)) (by rw [hzc']; simp [hzl]) (fun k _ => by simp [hzl]) fun k j a v hk' ha hv' => ?_
              rw [hzc', ← hzl] at hv'
              simp only [List.getElem?_map, Option.map_eq_some_iff] at ha
              obtain ⟨x, hx, rfl⟩ := ha
              rw [getElem_flatten_replicate n i.zero k j hk' (List.getElem?_eq_some_iff.1 hx).1, hx] at hv'
              injection hv' with hv'; subst hv'
              exact .lit _
          · cases h
        rename_i hnp
        simp only [Option.map_eq_some_iff] at h
        obtain ⟨cs, hfill, rfl⟩ := h
        have hzc' : z.cells.toList = (List.replicate n i.zero).flatten := by rw [hzc]; unfold TyI.zeroCells; rw [hk]
        obtain ⟨rs, g1, g2⟩ := fill_sound (w := w) (O := O) (μ := μ) (place' := fun k => some (k * ei.sz, ei.sz)) (fun k x hx => hx) parts _ cs z.cells vparts hfill (by
          rw [hzc']
          have : (List.replicate n (i.zero.map AV.lit)).flatten = ((List.replicate n i.zero).flatten).map AV.lit := by rw [List.map_flatten, List.map_replicate]
          rw [this]; exact RVs.lits _) hl hv
        refine ⟨.agg rs, ?_, .agg g2.1 g2.2⟩
        simp only [UndOk] at hu
        simp only [Instr.build, Sem.run_bind, hz, Result.andThen_ok, run_underlying hu, (hT e ei he).run_size, g1, Sem.run_pure]
      · cases h
    · cases h
  · cases h

/-! conversions, lengths -/
/-- The octets of a slice. -/
def octets (n : Nat) (f : Nat → List AV) : List UInt8 := (List.range n).map fun k => match f k with | [.lit (.int .u8 x)] => UInt8.ofNat x.toNat | _ => 0
def isOctets (n : Nat) (f : Nat → List AV) : Prop := ∀ k, k < n → ∃ x : UInt8, f k = [.lit (.int .u8 x.toNat)]
def aConv (tab : Tab) (src dst : TypeId) (x : AV) : Ans :=
  match tab src, tab dst with
  | some si, some di => match di.k, x with
    | .int k, .lit (.int _ z) => some (True, .lit (.int k (k.wrap z)))
    | .str, .lit (.string s) => some (True, .lit (.string s))
    | .str, .sl 1 n _ f => match si.k with
      | .slice e => match tab e with
        | some ei => match ei.k with
          | .int .u8 => some (isOctets n f, .lit (.string (str (octets n f))))
          | _ => none
        | none => none
      | _ => none
    | .str, .lit (.slice none 0 0) => match si.k with
      | .slice e => match tab e with
        | some ei => match ei.k with
          | .int .u8 => some (True, .lit (.string (str [])))
          | _ => none
        | none => none
      | _ => none
    | _, _ => none
  | _, _ => none
theorem octets_sl {n : Nat} {f : Nat → List AV} (h : isOctets n f) {v : Value} {t : Bool} (hv : RV O w μ (.sl 1 n t f) v) : Sl kU8 w O v (octets n f) := by
  cases hv with
  | sl go g0 gm gt g1 g2 g3 gz hA =>
    rename_i A c vs
    have hlen : (octets n f).length = n := by simp [octets]
    refine ⟨A, c, by rw [hlen], by rw [hlen]; exact g0, gm, fun hx => ?_⟩
    obtain ⟨g, o, rfl, hg, hcell⟩ := hA (fun h => hx (List.eq_nil_of_length_eq_zero (by rw [hlen]; exact h)))
    refine ⟨_, vs, rfl, hg, Reps.u8_map.2 ?_, fun j u hu => by rw [Addr.add_mid]; exact hcell j u hu⟩
    apply List.ext_getElem?
    intro k
    by_cases hk : k < n
    · obtain ⟨x, hx⟩ := h k hk
      have hv := g3 k 0 (.lit (.int .u8 x.toNat)) (vs[k]'(by omega)) hk (by rw [hx]; rfl) (by simp [show k < vs.length by omega])
      rw [List.getElem?_eq_getElem (by omega)]
      simp only [octets, List.map_map, List.getElem?_map, List.getElem?_range hk, Option.map_some, Function.comp, hx]
      generalize vs[k]'(by omega) = vk at hv
      cases hv
      simp
    · rw [List.getElem?_eq_none (by omega), List.getElem?_eq_none (by simp [octets]; omega)]
theorem conv_sound (hT : TabOk P tab) {src dst : TypeId} {x r : AV} {q : Prop} (h : aConv tab src dst x = some (q, r)) (hq : q) {v : Value} (hv : RV O w μ x v) : ∃ u, (convert src dst v).run P w = .ok u w ∧ RV O w μ r u := by
  unfold aConv at h
  split at h
  · rename_i si di hs hd
    have hsu := (hT _ _ hs).und
    obtain ⟨ds, hds, _⟩ := (hT _ _ hs).row
    have hdu := (hT _ _ hd).und
    split at h
    · rename_i k kk z hk
      injection h with h; injection h with h1 h2; subst h1 h2
      rw [hk] at hdu
      cases hv
      refine ⟨_, ?_, .lit _⟩
      simp only [UndOk] at hdu
      simp only [convert, Sem.run_bind, run_underlying hds, run_underlying hdu, Result.andThen_ok]
      cases ds <;> simp [Conv.intToInt]
    · rename_i s hk
      injection h with h; injection h with h1 h2; subst h1 h2
      rw [hk] at hdu
      cases hv
      refine ⟨_, ?_, .lit _⟩
      simp only [UndOk] at hdu
      simp only [convert, Sem.run_bind, run_underlying hds, run_underlying hdu, Result.andThen_ok]
      cases ds <;> simp
    · rename_i n tt f hk
      split at h
      · rename_i e hse
        split at h
        · rename_i ei he
          split at h
          · rename_i hek
            injection h with h; injection h with h1 h2; subst h1 h2
            rw [hk] at hdu
            rw [hse] at hsu
            have heu := (hT _ _ he).und
            rw [hek] at heu
            exact ⟨_, run_conv hsu heu hdu (octets_sl hq hv), .lit _⟩
          · cases h
        · cases h
      · cases h
    · rename_i hk
      split at h
      · rename_i e hse
        split at h
        · rename_i ei he
          split at h
          · rename_i hek
            injection h with h; injection h with h1 h2; subst h1 h2
            rw [hk] at hdu
            rw [hse] at hsu
            have heu := (hT _ _ he).und
            rw [hek] at heu
            cases hv
            exact ⟨_, run_conv hsu heu hdu (Sl.nil_ kU8 w (fun _ => False)), .lit _⟩
          · cases h
        · cases h
      · cases h
    · cases h
  · cases h
def aLen (tab : Tab) (t : TypeId) (x : AV) : Option AV :=
  match tab t with
  | some i => match i.k, x with
    | .slice _, .sl _ n _ _ => some (.lit (.int .i64 n))
    | .slice _, .row _ _ _ n _ => some (.lit (.int .i64 n))
    | .slice _, .lit (.slice none 0 0) => some (.lit (.int .i64 0))
    | .arr n _, _ => some (.lit (.int .i64 n))
    | .str, .lit (.string s) => some (.lit (.int .i64 s.size))
    | _, _ => none
  | none => none
theorem len_sound (hT : TabOk P tab) {t ty : TypeId} {x r : AV} (h : aLen tab t x = some r) {v : Value} (hv : RV O w μ x v) : ∃ u, (Builtin.len_ #[t] ty #[v]).run P w = .ok u w ∧ RV O w μ r u := by
  unfold aLen at h
  split at h
  · rename_i i hi
    have hu := (hT _ _ hi).und
    split at h <;> first | (cases h; done) | (injection h with h; subst h)
    · rename_i e sz n tt f hk
      rw [hk] at hu; simp only [UndOk] at hu
      cases hv
      exact ⟨_, by simp [Builtin.len_, run_underlying hu, goInt], .lit _⟩
    · rename_i e id sz off n cap hk
      rw [hk] at hu; simp only [UndOk] at hu
      cases hv <;> exact ⟨_, by simp [Builtin.len_, run_underlying hu, goInt], .lit _⟩
    · rename_i e hk
      rw [hk] at hu; simp only [UndOk] at hu
      cases hv
      exact ⟨_, by simp [Builtin.len_, run_underlying hu, goInt], .lit _⟩
    · rename_i n e hk
      rw [hk] at hu; simp only [UndOk] at hu
      exact ⟨_, by simp [Builtin.len_, run_underlying hu, goInt], .lit _⟩
    · rename_i s hk
      rw [hk] at hu; simp only [UndOk] at hu
      cases hv
      exact ⟨_, by simp [Builtin.len_, run_underlying hu, goInt], .lit _⟩
  · cases h
end
end Go.Proofs.YthdckgcalooipaaDoor
namespace Go.Proofs.YthdckgcalooipaaDoor
section
open Go.RowKit
set_option linter.unusedVariables false
set_option linter.unusedSimpArgs false
set_option linter.unusedSectionVars false
variable {P : Program} {tab : Tab} {X : Nat → Prop} {H : List AObj} {μ : Mu} {w : World} {O : Nat → Prop}

theorem RV.lit_eq {x v : Value} (h : RV O w μ (.lit x) v) : v = x := by cases h; rfl
def arrF : AV → Option (Nat × (Nat → List AV))
  | .arr 1 n f => some (n, f)
  | .agg cs => some (cs.length, fun k => [cs.getD k .junk])
  | _ => none
def isInts (kd : IntKind) (n : Nat) (f : Nat → List AV) : Prop := ∀ k, k < n → ∃ a, f k = [.lit (.int kd a)]
def intA : List AV → Int
  | [.lit (.int _ a)] => a
  | _ => 0
def arrEq (n : Nat) (f g : Nat → List AV) : Bool := decide (∀ k, k < n → intA (f k) = intA (g k))
theorem arrF_ok {x : AV} {n : Nat} {f : Nat → List AV} (h : arrF x = some (n, f)) {v : Value} (hv : RV O w μ x v) {kd : IntKind} (hi : isInts kd n f) : ∃ cs : Array Value, v = .agg cs ∧ cs.size = n ∧ ∀ k, k < n → cs[k]? = some (.int kd (intA (f k))) := by
  unfold arrF at h
  split at h
  · injection h with h; injection h with h1 h2; subst h1 h2
    cases hv with
    | arr h0 h1 h2 h3 =>
      rename_i vs
      refine ⟨_, rfl, by simpa using h1, fun k hk => ?_⟩
      obtain ⟨a, ha⟩ := hi k hk
      have hlt : k * 1 + 0 < vs.length := by omega
      have := h3 k 0 _ _ hk (by rw [ha]; rfl) (List.getElem?_eq_getElem hlt)
      have e : vs[k * 1 + 0] = .int kd a := this.lit_eq
      simp only [Nat.mul_one, Nat.add_zero] at e
      rw [ha]
      simp [intA, ← e, show k < vs.length by omega]
  · injection h with h; injection h with h1 h2; subst h1 h2
    cases hv with
    | agg h1 h2 =>
      rename_i cs vs
      refine ⟨_, rfl, by simpa using h1.symm, fun k hk => ?_⟩
      obtain ⟨a, ha⟩ := hi k hk
      have hlt : k < vs.length := by omega
      have := h2 k _ _ (List.getElem?_eq_getElem hk) (List.getElem?_eq_getElem hlt)
      have e0 : cs[k] = .lit (.int kd a) := by simpa [List.getD_eq_getElem?_getD, hk] using ha
      rw [e0] at this
      have e : vs[k] = .int kd a := this.lit_eq
      rw [ha]
      simp [intA, ← e, hlt]
  · cases h
theorem forIn_all2 {t : Nat → Bool} {β : Type} (f : Nat → β → Sem (ForInStep β)) (b d : β) : ∀ (l : List Nat), (∀ i ∈ l, (f i b).run P w = .ok (if t i = true then .yield b else .done d) w) → (forIn l b f).run P w = .ok (if l.all t = true then b else d) w
  | [], _ => by simp
  | i :: l, h => by
    rw [List.forIn_cons, Sem.run_bind, h i (by simp)]
    simp only [Result.andThen_ok]
    cases ht : t i with
    | true =>
      simp only [List.all_cons, ht, Bool.true_and, if_true]
      exact forIn_all2 (t := t) f b d l fun i hi => h i (by simp [hi])
    | false => simp [List.all_cons, ht]
theorem run_part_int {e : TypeId} {k : IntKind} {cs : Array Value} {v : Value} {j : Nat} (he : P.underlying e = some (.int k)) (hc : cs[j]? = some v) : (part e cs j).run P w = .ok v w := by
  simp [part, isAgg, run_underlying he, hc]
theorem run_equalIn_ints {t e : TypeId} {n d : Nat} {kd : IntKind} {xs ys : Array Value} {f g : Nat → Int} (hu : P.underlying t = some (.array n e)) (he : P.underlying e = some (.int kd)) (hs : (sizeOf e).run P w = .ok 1 w)
    (hx : ∀ k, k < n → xs[k]? = some (.int kd (f k))) (hy : ∀ k, k < n → ys[k]? = some (.int kd (g k))) : (Op.equalIn (d + 2) t (.agg xs) (.agg ys)).run P w = .ok (decide (∀ k, k < n → f k = g k)) w := by
  rw [Op.equalIn]
  simp only [Sem.run_bind, run_underlying hu, Result.andThen_ok, hs, Sem.run_pure]
  simp only [Std.Legacy.Range.forIn_eq_forIn_range']
  rw [forIn_all2 (t := fun i => f i == g i) (d := ⟨some false, ()⟩)]
  · generalize hA : (List.all _ fun i => f i == g i) = A
    have : A = decide (∀ k, k < n → f k = g k) := by
      rw [← hA, Bool.eq_iff_iff]
      simp [List.all_eq_true, List.mem_range'_1, Std.Legacy.Range.size]
    subst this
    by_cases h : ∀ k, k < n → f k = g k
    · rw [decide_eq_true h]; simp
    · rw [decide_eq_false h]; simp
  · intro i hm
    have hi : i < n := by simp [List.mem_range'] at hm; simpa using hm
    have hp := run_part_int (P := P) (w := w) he (hx i hi)
    have hq := run_part_int (P := P) (w := w) he (hy i hi)
    have h2 := run_equalIn_int (P := P) w d e kd kd (f i) (g i) he
    simp [Sem.run_bind, hp, hq, h2]
    split <;> simp_all
theorem run_guard_ints {op : BinOp} {t e : TypeId} {n : Nat} {kd : IntKind} {xs ys : Array Value} {f g : Nat → Int} (xo yo : Operand) (hu : P.underlying t = some (.array n e)) (he : P.underlying e = some (.int kd)) (hs : (sizeOf e).run P w = .ok 1 w)
    (hx : ∀ k, k < n → xs[k]? = some (.int kd (f k))) (hy : ∀ k, k < n → ys[k]? = some (.int kd (g k))) : (eqGuard op t xo yo (.agg xs) (.agg ys)).run P w = .ok () w := by
  have h1 : (Op.eqGuardIn (9998 + 2) t (.agg xs) (.agg ys)).run P w = .ok false w := by
    rw [Op.eqGuardIn]
    simp only [Sem.run_bind, run_underlying hu, Result.andThen_ok, hs, Sem.run_pure]
    simp only [Std.Legacy.Range.forIn_eq_forIn_range']
    rw [forIn_all2 (t := fun i => true) (d := ⟨some false, ()⟩)]
    · simp
    · intro i hm
      have hi : i < n := by simp [List.mem_range'] at hm; simpa using hm
      have hp := run_part_int (P := P) (w := w) he (hx i hi)
      have hq := run_part_int (P := P) (w := w) he (hy i hi)
      have h2 : (Op.eqGuardIn (9998 + 1) e (.int kd (f i)) (.int kd (g i))).run P w = .ok false w := by
        rw [Op.eqGuardIn]
        simp [Sem.run_bind, run_underlying he]
      simp [Sem.run_bind, hp, hq, h2]
  have h1 : (Op.eqGuardIn Op.maxDepth t (.agg xs) (.agg ys)).run P w = .ok false w := h1
  cases op <;> simp [eqGuard, run_program, h1]
def aCmp (tab : Tab) (op : BinOp) (t : TypeId) (x y : AV) : Ans :=
  match tab t with
  | some i => match i.k, op, x, y with
    | .bool, .eql, .lit (.bool a), .lit (.bool b) => some (True, .lit (.bool (a == b)))
    | .bool, .neq, .lit (.bool a), .lit (.bool b) => some (True, .lit (.bool (!(a == b))))
    | .arr n e, op, x, y => match tab e, arrF x, arrF y with
      | some ei, some (m, f), some (m', g) => match ei.k, Nat.beq m n, Nat.beq m' n, op with
        | .int kd, true, true, .eql => some (isInts kd n f ∧ isInts kd n g, .lit (.bool (arrEq n f g)))
        | .int kd, true, true, .neq => some (isInts kd n f ∧ isInts kd n g, .lit (.bool (!arrEq n f g)))
        | _, _, _, _ => none
      | _, _, _ => none
    | _, _, _, _ => none
  | none => none
theorem cmp_sound (hT : TabOk P tab) {op : BinOp} {t : TypeId} {x y r : AV} {q : Prop} (h : aCmp tab op t x y = some (q, r)) (hq : q) {u v : Value} (hu : RV O w μ x u) (hv : RV O w μ y v) (xo yo : Operand) :
    ∃ z, (do eqGuard op t xo yo u v; binOp op t u v : Sem Value).run P w = .ok z w ∧ RV O w μ r z := by
  unfold aCmp at h
  split at h
  · rename_i i hi
    have hun := (hT _ _ hi).und
    split at h
    rotate_left
    rotate_left
    · rename_i n e hk
      split at h
      · rename_i ei m f m' g he hf hg
        split at h <;> first | (cases h; done) | (injection h with h; injection h with h1 h2; subst h1 h2)
        all_goals
          rename_i kd hkd hm hm'
          have hm := beq_t hm; have hm' := beq_t hm'
          subst hm; subst hm'
          have hty := hT _ _ he
          have hue := hty.und
          rw [hkd] at hue; simp only [UndOk] at hue
          rw [hk] at hun; simp only [UndOk] at hun
          have hsz : (sizeOf e).run P w = .ok 1 w := by have := hty.run_size (w := w); rw [hty.one (by rw [hkd]; rfl)] at this; exact this
          obtain ⟨cs, rfl, hs1, hc1⟩ := arrF_ok hf hu hq.1
          obtain ⟨ds, rfl, hs2, hc2⟩ := arrF_ok hg hv hq.2
          refine ⟨_, ?_, .lit _⟩
          rw [Sem.run_bind, run_guard_ints xo yo hun hue hsz hc1 hc2]
          simp only [Result.andThen_ok]
          first
            | rw [run_eql_struct, run_equalIn_ints (d := 9998) hun hue hsz hc1 hc2]
            | rw [run_neq_struct, run_equalIn_ints (d := 9998) hun hue hsz hc1 hc2]
          rfl
      · cases h
    · cases h
    all_goals
      injection h with h; injection h with h1 h2; subst h1 h2
      rename_i hk
      rw [hk] at hun; simp only [UndOk] at hun
      cases hu; cases hv
      refine ⟨_, ?_, .lit _⟩
      have he : ∀ a b : Bool, (Op.equal t (.bool a) (.bool b)).run P w = .ok (a == b) w := fun a b => by
        show (Op.equalIn (9999 + 1) t (.bool a) (.bool b)).run P w = _
        rw [Op.equalIn, Sem.run_bind, run_underlying hun]
        rfl
      simp only [eqGuard, binOp, Sem.run_bind, he]
      simp [he]
  · cases h
def aNilCheck : AV → Option AV
  | .ptr i sz k o => some (.ptr i sz k o)
  | .ip cs => some (.ip cs)
  | .fn (.func f) a b => some (.fn (.func f) a b)
  | _ => none
def canBox : TyK → Bool
  | .int _ | .bool | .str | .ptr _ | .slice _ | .arr _ _ | .struct _ | .map _ _ | .func => true
  | _ => false
/-- What an operation answers that writes nothing. -/
def aPure (tab : Tab) (H : List AObj) (ev : Operand → AV) : Op → Ans
  | .move x => some (True, ev x)
  | .assign x => some (True, ev x)
  | .pick c a b => match ev c, ev a, ev b with
    | .lit (.bool t), .lit x, .lit y => some (True, .lit (bif t then x else y))
    | _, _, _ => none
  | .load t x => aLoad tab t (ev x) H
  | .nilCheck x => (aNilCheck (ev x)).map fun r => (True, r)
  | .binOp op t x y _ => match ev x, ev y with
    | .lit a, .lit b => match aBin op a b with
      | some (q, r) => some (q, .lit r)
      | none => aCmp tab op t (.lit a) (.lit b)
    | a, b => aCmp tab op t a b
  | .unOp op _ x => match ev x with
    | .lit a => (aUn op a).map fun r => (True, .lit r)
    | _ => none
  | .convert s d x => aConv tab s d (ev x)
  | .makeInterface t x => match tab t with
    | some i => match canBox i.k with
      | true => some (True, .iface t (ev x))
      | false => none
    | none => none
  | .sliceToArrayPointer t x => match tab t, ev x with
    | some i, .sl sz m _ f => match i.k with
      | .arr n _ => some (n ≤ m ∧ 0 < n, .ip ((List.range n).map f).flatten)
      | _ => none
    | _, _ => none
  | .makeFunc fn a b => some (True, .fn fn (a.toList.map ev) (b.toList.map ev))
  | .build t ps => (aBuild tab t (ps.toList.map fun p => (p.1, ev p.2))).map fun r => (True, r)
  | .slice t x lo hi mx => aSlice tab H t (ev x) (lo.map ev) (hi.map ev) (mx.map ev)
  | .fieldAddr t x k => (aFieldAddr tab t (ev x) k).map fun r => (True, r)
  | .field t x k => aField tab t (ev x) k
  | .indexAddr t x i => aIndexAddr tab t (ev x) (ev i)
  | .index t x i => aIndex tab t (ev x) (ev i)
  | .extract x k => match ev x with
    | .tup vs => (nth vs k).map fun r => (True, r)
    | _ => none
  | .call ⟨.builtin .len, ⟨[x]⟩, ⟨[t]⟩⟩ => (aLen tab t (ev x)).map fun r => (True, r)
  | .call ⟨.builtin .max, ⟨[x, y]⟩, _⟩ => match ev x, ev y with | .lit (.int k a), .lit (.int _ b) => some (True, .lit (.int k (max a b))) | _, _ => none
  | .call ⟨.builtin .min, ⟨[x, y]⟩, _⟩ => match ev x, ev y with | .lit (.int k a), .lit (.int _ b) => some (True, .lit (.int k (min a b))) | _, _ => none
  | _ => none
theorem pure_sound (hT : TabOk P tab) {ev : Operand → AV} {o : Oper} {r : AV} {q : Prop} (h : aPure tab H ev o.op = some (q, r)) (hq : q) (hH : HRel μ X H w) {ρ : Operand → Value} (hr : ∀ x, RV (OO X H μ) w μ (ev x) (ρ x)) :
    ∃ u, (execOp ρ o).run P w = .ok (.value u) w ∧ RV (OO X H μ) w μ r u := by
  have vv : ∀ {s : Sem Value} {u : Value}, s.run P w = .ok u w → (do pure (.value (← s)) : Sem Next).run P w = .ok (.value u) w := fun hs => by simp [hs]
  have one : ∀ {s : Sem Value}, (∃ u, s.run P w = .ok u w ∧ RV (OO X H μ) w μ r u) → ∃ u, (do pure (.value (← s)) : Sem Next).run P w = .ok (.value u) w ∧ RV (OO X H μ) w μ r u := fun ⟨u, h1, h2⟩ => ⟨u, vv h1, h2⟩
  unfold execOp
  generalize o.op = op at h
  cases op <;> simp only [aPure, reduceCtorEq] at h <;> try (cases h; done)
  all_goals dsimp only
  case move x => injection h with h; injection h with h1 h2; subst h1 h2; exact ⟨_, by simp, hr x⟩
  case assign x => injection h with h; injection h with h1 h2; subst h1 h2; exact ⟨_, by simp, hr x⟩
  case pick c a b =>
    split at h
    · rename_i t x y hc ha hb
      injection h with h; injection h with h1 h2; subst h1 h2
      have h1 := hr c; have h2 := hr a; have h3 := hr b
      rw [hc] at h1; rw [ha] at h2; rw [hb] at h3
      generalize ρ c = c' at *; generalize ρ a = a' at *; generalize ρ b = b' at *
      cases h1; cases h2; cases h3
      refine ⟨_, ?_, .lit _⟩
      simp only [Sem.run_bind, asBool, Sem.run_pure, Result.andThen_ok]
      cases t <;> rfl
    · cases h
  case load t x => exact one (load_sound hT h hq hH (hr x))
  case nilCheck x =>
    simp only [Option.map_eq_some_iff, Prod.mk.injEq] at h
    obtain ⟨a, ha, rfl, rfl⟩ := h
    have hx := hr x
    unfold aNilCheck at ha
    split at ha <;> first | (cases ha; done) | (injection ha with ha; subst ha; rename_i he; rw [he] at hx; generalize ρ x = x' at *; refine ⟨x', ?_, hx⟩; cases hx <;> rfl)
  case binOp op t x y yt =>
    have hx := hr x
    have hy := hr y
    split at h
    · rename_i a b ha hb
      rw [ha] at hx; rw [hb] at hy
      generalize ρ x = x' at *; generalize ρ y = y' at *
      cases hx; cases hy
      split at h
      · rename_i q r hbin
        injection h with h; injection h with h1 h2; subst h1 h2
        exact ⟨_, vv (bin_sound hbin hq t x y), .lit _⟩
      · exact one (cmp_sound hT h hq (.lit _) (.lit _) x y)
    · exact one (cmp_sound hT h hq hx hy x y)
  case unOp op t x =>
    have hx := hr x
    split at h
    · rename_i a ha
      rw [ha] at hx
      generalize ρ x = x' at *
      cases hx
      simp only [Option.map_eq_some_iff, Prod.mk.injEq] at h
      obtain ⟨v, hv, rfl, rfl⟩ := h
      exact ⟨_, vv (un_sound hv), .lit _⟩
    · cases h
  case convert s d x => exact one (conv_sound hT h hq (hr x))
  case makeInterface t x =>
    split at h
    · rename_i i hi
      split at h
      · rename_i hk
        injection h with h; injection h with h1 h2; subst h1 h2
        refine ⟨_, vv ?_, .iface (hr x)⟩
        have hu := (hT _ _ hi).und
        cases hkk : i.k <;> rw [hkk] at hk hu <;> simp only [canBox, Bool.false_eq_true] at hk <;> simp only [UndOk] at hu
        all_goals first
          | (simp [Instr.makeInterface, run_underlying hu]; done)
          | (obtain ⟨_, hu, _⟩ := hu; simp [Instr.makeInterface, run_underlying hu]; done)
          | (obtain ⟨_, _, _, hu⟩ := hu; simp [Instr.makeInterface, run_underlying hu]; done)
      · cases h
    · cases h
  case sliceToArrayPointer t x =>
    have hx := hr x
    split at h
    · rename_i i sz m tt f hi he
      split at h
      · rename_i n e hk
        injection h with h; injection h with h1 h2; subst h1 h2
        rw [he] at hx
        generalize ρ x = x' at *
        have hu := (hT _ _ hi).und
        rw [hk] at hu; simp only [UndOk] at hu
        cases hx with
        | sl ho hc hm ht h1 h2 h3 hz hA =>
          rename_i A c vs
          obtain ⟨g, o, rfl, hg, hcell⟩ := hA (by omega)
          have hlen : ∀ (l : List Nat), (∀ k ∈ l, k < m) → ((l.map f).flatten).length = l.length * sz := fun l hl => by
            induction l with
            | nil => simp
            | cons k l ih => simp [h2 k (hl k (by simp)), ih fun k hk => hl k (by simp [hk])]; rw [Nat.add_mul]; omega
          have hvl : n * sz ≤ vs.length := by rw [h1]; exact Nat.mul_le_mul_right _ hq.1
          have h00 : 0 < vs.length := by rw [h1]; exact Nat.mul_pos (by omega) hz
          refine ⟨.pointer (some ⟨g, o, none⟩), vv (by simp [Instr.arrayAt, run_underlying hu, Nat.not_lt.2 hq.1]), .ip (vs := vs.take (n * sz)) ?_ (fun j a v ha hv => ?_) hg (World.block_lt_of_cell? w _ (hcell 0 _ (List.getElem?_eq_getElem h00))) fun j u hu => ?_⟩
          · rw [hlen _ (fun k hk => by have := List.mem_range.1 hk; omega)]; simp [Nat.min_eq_left hvl]
          · have hj : j < n * sz := by have := (List.getElem?_eq_some_iff.1 hv).1; simp at this; omega
            rw [List.getElem?_take_of_lt hj] at hv
            have hjd : j / sz < n := (Nat.div_lt_iff_lt_mul hz).2 hj
            have hjm : j % sz < sz := Nat.mod_lt _ hz
            have hjj : j = j / sz * sz + j % sz := (Nat.div_add_mod' j sz).symm
            have hget : ∀ (l : List Nat), (∀ k ∈ l, k < m) → ∀ (q r : Nat), r < sz → ((l.map f).flatten)[q * sz + r]? = (l[q]?).bind fun k => (f k)[r]? := fun l => by
              induction l with
              | nil => intro _ q r _; simp
              | cons k l ih =>
                intro hl q r hr'
                simp only [List.map_cons, List.flatten_cons]
                cases q with
                | zero => rw [List.getElem?_append_left (by rw [h2 k (hl k (by simp))]; omega)]; simp
                | succ q =>
                  rw [List.getElem?_append_right (by rw [h2 k (hl k (by simp)), Nat.add_mul]; omega), h2 k (hl k (by simp))]
                  have : (q + 1) * sz + r - sz = q * sz + r := by rw [Nat.add_mul]; omega
                  rw [this, ih (fun k hk => hl k (by simp [hk])) q r hr']
                  simp
            rw [hjj, hget _ (fun k hk => by have := List.mem_range.1 hk; omega) _ _ hjm] at ha
            simp [List.getElem?_range hjd] at ha
            rw [hjj] at hv
            exact h3 _ _ a v (by omega) ha hv
          · rw [List.getElem?_take] at hu
            split at hu
            · exact hcell j u hu
            · cases hu
      · cases h
    · cases h
  case makeFunc fn a b =>
    injection h with h; injection h with h1 h2; subst h1 h2
    refine ⟨.func fn (a.map ρ) (b.map ρ), by simp [Instr.makeFunc], ?_⟩
    have hl : ∀ l : List Operand, (l.map ev).length = (l.map ρ).length ∧ ∀ (j : Nat) x v, (l.map ev)[j]? = some x → (l.map ρ)[j]? = some v → RV (OO X H μ) w μ x v := fun l => ⟨by simp, fun j x v hx hv => by
      simp only [List.getElem?_map, Option.map_eq_some_iff] at hx hv
      obtain ⟨p, hp, rfl⟩ := hx
      obtain ⟨p', hp', rfl⟩ := hv
      rw [hp] at hp'; injection hp' with hp'; subst hp'
      exact hr _⟩
    have e : ∀ z : Array Operand, z.map ρ = (z.toList.map ρ).toArray := fun z => by apply Array.ext'; simp
    rw [e, e]
    exact .fn (hl _).1 (hl _).2 (hl _).1 (hl _).2
  case build t ps =>
    simp only [Option.map_eq_some_iff, Prod.mk.injEq] at h
    obtain ⟨a, ha, rfl, rfl⟩ := h
    have := build_sound hT ha (w := w) (O := OO X H μ) (μ := μ) (vparts := ps.toList.map fun p => (p.1, ρ p.2)) (by simp) fun j i x i' v hx hv => by
      simp only [List.getElem?_map, Option.map_eq_some_iff, Prod.mk.injEq] at hx hv
      obtain ⟨p, hp, rfl, rfl⟩ := hx
      obtain ⟨p', hp', rfl, rfl⟩ := hv
      rw [hp] at hp'; injection hp' with hp'; subst hp'
      exact ⟨rfl, hr _⟩
    have e : (ps.map fun (i, x) => (i, ρ x)) = (ps.toList.map fun p => (p.1, ρ p.2)).toArray := by apply Array.ext'; simp
    rw [e]
    exact one this
  case slice t x lo hi mx =>
    have g : ∀ (z : Option Operand), (∀ a, z.map ev = some a → ∃ v, z.map ρ = some v ∧ RV (OO X H μ) w μ a v) ∧ (z.map ev = none → z.map ρ = none) := fun z => by
      cases z with
      | none => exact ⟨fun a h => (by cases h), fun _ => rfl⟩
      | some z => exact ⟨fun a h => (by simp at h; subst h; exact ⟨_, rfl, hr z⟩), fun h => (by cases h)⟩
    exact one (slice_sound hT h hq hH (hr x) (g lo).1 (g lo).2 (g hi).1 (g hi).2 (g mx).1 (g mx).2)
  case fieldAddr t x k =>
    simp only [Option.map_eq_some_iff, Prod.mk.injEq] at h
    obtain ⟨a, ha, rfl, rfl⟩ := h
    exact one (fieldAddr_sound hT ha (hr x))
  case field t x k => exact one (field_sound hT h hq (hr x))
  case indexAddr t x i => exact one (indexAddr_sound hT h hq (hr x) (hr i))
  case index t x i => exact one (index_sound hT h hq (hr x) (hr i))
  case extract x k =>
    have hx := hr x
    split at h
    · rename_i vs ha
      rw [ha] at hx
      generalize ρ x = x' at *
      cases hx with
      | tup h1 h2 =>
        rename_i us
        simp only [Option.map_eq_some_iff, Prod.mk.injEq] at h
        obtain ⟨a, ha, rfl, rfl⟩ := h
        rw [nth_eq] at ha
        obtain ⟨v, hv1, hv2⟩ := RVs.at_ (cs := vs) (vs := us) ⟨h1, h2⟩ ha
        exact ⟨v, vv (by simp [Instr.extract, hv1]), hv2⟩
    · cases h
  case call c =>
    split at h <;> first | (cases h; done) | (rename_i heq; cases heq; done) | skip
    rotate_left
    · rename_i x y ts heq
      simp only [Op.call.injEq] at heq
      subst heq
      have hx := hr x
      have hy := hr y
      split at h
      · rename_i k a k' b ha hb
        injection h with h; injection h with h1 h2; subst h1 h2
        rw [ha] at hx; rw [hb] at hy
        refine ⟨_, ?_, .lit _⟩
        have : max a b = if b > a then b else a := by omega
        simp [resolve, invoke, builtin, Builtin.max_, Builtin.max2, hx.lit_eq, hy.lit_eq, this]
      · cases h
    · rename_i x y ts heq
      simp only [Op.call.injEq] at heq
      subst heq
      have hx := hr x
      have hy := hr y
      split at h
      · rename_i k a k' b ha hb
        injection h with h; injection h with h1 h2; subst h1 h2
        rw [ha] at hx; rw [hb] at hy
        refine ⟨_, ?_, .lit _⟩
        have : min a b = if b < a then b else a := by omega
        simp [resolve, invoke, builtin, Builtin.min_, Builtin.min2, hx.lit_eq, hy.lit_eq, this]
      · cases h
    rename_i x t heq
    simp only [Op.call.injEq] at heq
    subst heq
    simp only [Option.map_eq_some_iff, Prod.mk.injEq] at h
    obtain ⟨a, ha, rfl, rfl⟩ := h
    obtain ⟨u, h1, h2⟩ := len_sound hT ha (ty := o.type) (hr x)
    refine ⟨u, ?_, h2⟩
    simp [resolve, invoke, builtin, h1]
end
end Go.Proofs.YthdckgcalooipaaDoor
namespace Go.Proofs.YthdckgcalooipaaDoor
section
open Go.RowKit
set_option linter.unusedVariables false
set_option linter.unusedSimpArgs false
set_option linter.unusedSectionVars false
variable {P : Program} {tab : Tab} {X : Nat → Prop} {H H' : List AObj} {μ μ' : Mu} {w w' : World} {O O' : Nat → Prop}

/-- A value without what names object id. -/
def forget (id : Nat) : Nat → AV → AV
  | 0, _ => .junk
  | n + 1, a => match a with
    | .row i sz off k c => match Nat.beq i id with | true => .junk | false => .row i sz off k c
    | .ptr i sz k o => match Nat.beq i id with | true => .junk | false => .ptr i sz k o
    | .agg cs => .agg (cs.map (forget id n))
    | .tup cs => .tup (cs.map (forget id n))
    | .fn f a b => .fn f (a.map (forget id n)) (b.map (forget id n))
    | .iface t a => .iface t (forget id n a)
    | a => a
def idfree : Nat → AV → Bool
  | 0, _ => false
  | n + 1, a => match a with
    | .row .. | .ptr .. => false
    | .agg cs | .tup cs => cs.all (idfree n)
    | .fn _ a b => a.all (idfree n) && b.all (idfree n)
    | .iface _ a => idfree n a
    | _ => true
def oneA : AV → Bool
  | .lit x => x.oneCell'
  | .junk | .agg _ | .arr .. | .tup _ => false
  | _ => true
theorem oneA_one {a : AV} {v : Value} (h : oneA a = true) (hv : RV O w μ a v) : v.oneCell' = true := by
  cases hv <;> simp only [oneA, Bool.false_eq_true] at h <;> first | rfl | exact h
theorem idfree_rv : ∀ (n : Nat) {a : AV} {v : Value}, idfree n a = true → RV O w μ a v → RV O w noMu a v
  | 0, _, _, h, _ => by cases h
  | n + 1, a, v, h, hv => by
    cases hv with
    | junk => exact .junk _
    | lit => exact .lit _
    | agg h1 h2 => exact .agg h1 fun j a v ha hv => idfree_rv n (List.all_eq_true.1 h _ (List.mem_of_getElem? ha)) (h2 j a v ha hv)
    | arr a1 a2 a3 a4 => exact .arr a1 a2 a3 a4
    | tup h1 h2 => exact .tup h1 fun j a v ha hv => idfree_rv n (List.all_eq_true.1 h _ (List.mem_of_getElem? ha)) (h2 j a v ha hv)
    | sl a0 a1 a2 a3 a4 a5 a6 a7 a8 => exact .sl a0 a1 a2 a3 a4 a5 a6 a7 a8
    | rowNil | row | rowE | ptr => cases h
    | ip a1 a2 a3 a4 a5 => exact .ip a1 a2 a3 a4 a5
    | fn h1 h2 h3 h4 =>
      simp only [idfree, Bool.and_eq_true] at h
      exact .fn h1 (fun j a v ha hv => idfree_rv n (List.all_eq_true.1 h.1 _ (List.mem_of_getElem? ha)) (h2 j a v ha hv)) h3 fun j a v ha hv => idfree_rv n (List.all_eq_true.1 h.2 _ (List.mem_of_getElem? ha)) (h4 j a v ha hv)
    | iface h1 => exact .iface (idfree_rv n h h1)
/-- Memory turned: object id lies elsewhere; all else is as it was. -/
structure Moved (id : Nat) (O O' : Nat → Prop) (μ μ' : Mu) (w w' : World) : Prop where
  mu : ∀ i l, i ≠ id → μ i = some l → μ' i = some l
  oo : ∀ b, b < w.heap.size → O' b → O b
  blk : ∀ b, b < w.heap.size → ¬ O b → w'.heap[b]? = w.heap[b]?
theorem Moved.upto {id : Nat} (h : Moved id O O' μ μ' w w') (k : Nat) : Moved id O O' (upto k μ) (upto k μ') w w' := by
  refine ⟨fun i l hi hl => ?_, h.oo, h.blk⟩
  unfold Proofs.YthdckgcalooipaaDoor.upto at *
  split at hl
  · rename_i hlt; rw [if_pos hlt]; exact h.mu i l hi hl
  · cases hl
theorem forget_rv {id : Nat} (hm : Moved id O O' μ μ' w w') : ∀ (n : Nat) {a : AV} {v : Value}, RV O w μ a v → RV O' w' μ' (forget id n a) v
  | 0, a, v, _ => .junk v
  | n + 1, a, v, hv => by
    have fl : ∀ {cs : List AV} {vs : List Value}, (∀ (j : Nat) a v, cs[j]? = some a → vs[j]? = some v → RV O w μ a v) → ∀ (j : Nat) a v, (cs.map (forget id n))[j]? = some a → vs[j]? = some v → RV O' w' μ' a v := by
      intro cs vs h j a v ha hv
      simp only [List.getElem?_map, Option.map_eq_some_iff] at ha
      obtain ⟨a, ha, rfl⟩ := ha
      exact forget_rv hm n (h j a v ha hv)
    cases hv with
    | junk => exact .junk _
    | lit => exact .lit _
    | agg h1 h2 => exact .agg (by simpa using h1) (fl h2)
    | tup h1 h2 => exact .tup (by simpa using h1) (fl h2)
    | arr a1 a2 a3 a4 => exact .arr a1 a2 a3 fun k j a v hk ha hv => (a4 k j a v hk ha hv).mono hm.oo hm.blk _ fun _ _ h => h
    | sl a0 a1 a2 a3 a4 a5 a6 a7 a8 => exact (RV.sl (μ := noMu) a0 a1 a2 a3 a4 a5 a6 a7 a8).mono hm.oo hm.blk _ fun _ _ h => by cases h
    | ip a1 a2 a3 a4 a5 => exact (RV.ip (μ := noMu) a1 a2 a3 a4 a5).mono hm.oo hm.blk _ fun _ _ h => by cases h
    | rowNil h hc =>
      simp only [forget]
      split
      · exact .junk _
      · rename_i hne; exact .rowNil (hm.mu _ _ (by rintro rfl; simp at hne) h) hc
    | row h h1 h2 h3 h4 =>
      simp only [forget]
      split
      · exact .junk _
      · rename_i hne; exact .row (hm.mu _ _ (by rintro rfl; simp at hne) h) h1 h2 h3 h4
    | rowE h h1 h2 =>
      simp only [forget]
      split
      · exact .junk _
      · rename_i hne; exact .rowE (hm.mu _ _ (by rintro rfl; simp at hne) h) h1 h2
    | ptr h =>
      simp only [forget]
      split
      · exact .junk _
      · rename_i hne; exact .ptr (hm.mu _ _ (by rintro rfl; simp at hne) h)
    | fn h1 h2 h3 h4 => exact .fn (by simpa using h1) (fl h2) (by simpa using h3) (fl h4)
    | iface h1 => exact .iface (forget_rv hm n h1)
def forgetObj (id : Nat) (o : AObj) : AObj := match o.pure with | true => o | false => { o with f := fun k => (o.f k).map (forget id 4) }
theorem forgetObj_st (id : Nat) (o : AObj) : (forgetObj id o).st = o.st := by unfold forgetObj; split <;> rfl

/-- A new object. -/
theorem HRel.new (hH : HRel μ X H w) {o : AObj} {m : Nat} {cur : Array Value} (hz : 0 < o.sz) (hsz : cur.size = m * o.sz) (hm : m ≤ maxLen) (hn : o.n ≤ m) (h1 : ∀ (k j : Nat) v, k < o.n → j < o.sz → cur[k * o.sz + j]? = some v → v.oneCell' = true)
    (hf : ∀ k, k < o.n → (o.f k).length = o.sz) (hc : ∀ (k j : Nat) a v, k < o.n → (o.f k)[j]? = some a → cur[k * o.sz + j]? = some v → RV (OO X H μ) w (if o.pure then noMu else μ) a v) :
    let μ' : Mu := fun i => if i = H.length then some (some (w.heap.size, m)) else μ i
    HRel μ' X (H ++ [o]) (w.alloc (.cells cur o.T)) ∧ (∀ i l, μ i = some l → μ' i = some l) ∧ Ext μ w μ' ∧ Chg μ w (w.alloc (.cells cur o.T)) ∧
      ∀ (k : Nat) {a : AV} {v : Value}, RV (OO X H μ) w (upto k μ) a v → RV (OO X (H ++ [o]) μ') (w.alloc (.cells cur o.T)) (upto k μ') a v := by
  intro μ'
  have hmu : ∀ i l, μ i = some l → μ' i = some l := fun i l hi => by
    have := hH.dom i l hi
    simp only [μ']; rw [if_neg (by omega)]; exact hi
  have hb : Below w.heap.size w (w.alloc (.cells cur o.T)) := (Below.refl _ _).alloc (Nat.le_refl _) _
  have hext : Ext μ w μ' := fun i b m1 hi => by
    simp only [μ'] at hi
    split at hi
    · injection hi with hi; injection hi with hi; injection hi with e1 e2
      exact .inr (by omega)
    · exact .inl ⟨i, m1, hi⟩
  have hOO : ∀ b, b < w.heap.size → OO X (H ++ [o]) μ' b → OO X H μ b := by
    rintro b hlt (hx | ⟨i, o', m', hi, hs, hm'⟩)
    · exact .inl hx
    · simp only [μ'] at hm'
      split at hm'
      · injection hm' with hm'; injection hm' with hm'; injection hm' with e1 e2; omega
      · have := hH.dom i _ hm'
        rw [List.getElem?_append_left this] at hi
        exact .inr ⟨i, o', m', hi, hs, hm'⟩
  have hrv : ∀ {μ₁ : Mu} {a : AV} {v : Value}, RV (OO X H μ) w μ₁ a v → ∀ μ₂ : Mu, (∀ i l, μ₁ i = some l → μ₂ i = some l) → RV (OO X (H ++ [o]) μ') (w.alloc (.cells cur o.T)) μ₂ a v := fun h μ₂ hh => h.mono hOO (fun b hl _ => hb.block b hl) _ hh
  refine ⟨⟨fun i l hi => ?_, fun i j b m1 m2 hi hj => ?_, fun i b m1 hi => ?_, fun i o' hi hs => ?_, fun b hx => by have := hH.xlt b hx; simp; omega, hH.gl.step hb.size (fun b hlt _ _ => hb.block b hlt) (fun _ h => .inl h) fun i b m1 hi => (hext i b m1 hi).imp id .inr⟩, hmu, hext, .of_below hb, fun k a v h => hrv h _ (upto_mono hmu)⟩
  · simp only [μ'] at hi
    split at hi
    · subst i; simp
    · have := hH.dom i l hi; simp; omega
  · simp only [μ'] at hi hj
    split at hi <;> split at hj
    · omega
    · injection hi with hi; injection hi with hi; injection hi with e1 e2
      have := (hH.lt j b m2 hj).1; omega
    · injection hj with hj; injection hj with hj; injection hj with e1 e2
      have := (hH.lt i b m1 hi).1; omega
    · exact hH.inj i j b m1 m2 hi hj
  · simp only [μ'] at hi
    split at hi
    · injection hi with hi; injection hi with hi; injection hi with e1 e2
      subst e1
      exact ⟨by simp, fun hx => by have := hH.xlt _ hx; omega⟩
    · have := hH.lt i b m1 hi
      exact ⟨by simp; omega, this.2⟩
  · by_cases hlt : i < H.length
    · rw [List.getElem?_append_left hlt] at hi
      exact (hH.obj i o' hi hs).mono hOO (fun b hl _ => hb.block b hl) hmu fun b m1 h1 => hb.block b (hH.lt i b m1 h1).1
    · have he : i = H.length := by
        have := (List.getElem?_eq_some_iff.1 hi).1
        simp at this; omega
      subst he
      simp at hi
      subst hi
      refine ⟨hz, .inr ⟨w.heap.size, m, cur, by simp [μ'], heap_alloc_new w _, hsz, hm, hn, h1, hf, fun k j a v hk ha hv => hrv (hc k j a v hk ha hv) _ fun i l hi => ?_⟩⟩
      split
      · rename_i hp; rw [if_pos hp] at hi; exact hi
      · rename_i hp; rw [if_neg hp] at hi; exact hmu i l hi

/-- Object id, which may be written, is written, and perhaps lies elsewhere now. -/
structure Puts (μ μ' : Mu) (X : Nat → Prop) (H H' : List AObj) (w w' : World) (id : Nat) : Prop where
  live : ∃ o, H[id]? = some o ∧ o.st = 0
  len : H'.length = H.length
  st : ∀ i o', i ≠ id → H'[i]? = some o' → ∃ o1, H[i]? = some o1 ∧ o'.st = o1.st
  mu : ∀ i, i ≠ id → μ' i = μ i
  mid : ∀ l, μ' id = some l → ∀ b m, l = some (b, m) → b < w'.heap.size ∧ ((∃ m', μ id = some (some (b, m'))) ∨ w.heap.size ≤ b)
  size : w.heap.size ≤ w'.heap.size
  os : w'.os = w.os
  tape : w'.tape = w.tape
  output : w'.output = w.output
  blk : ∀ b, b < w.heap.size → (∀ m, μ id ≠ some (some (b, m))) → w'.heap[b]? = w.heap[b]?
theorem Puts.oo {id : Nat} (h : Puts μ μ' X H H' w w' id) : ∀ b, b < w.heap.size → OO X H' μ' b → OO X H μ b := by
  rintro b hlt (hx | ⟨i, o, m, hi, hs, hm⟩)
  · exact .inl hx
  · by_cases he : i = id
    · subst he
      obtain ⟨o0, h0, hs0⟩ := h.live
      rcases (h.mid _ hm b m rfl).2 with ⟨m', hm'⟩ | hge
      · exact .inr ⟨i, o0, m', h0, hs0, hm'⟩
      · omega
    · obtain ⟨o1, h1, hs1⟩ := h.st i o he hi
      exact .inr ⟨i, o1, m, h1, by rw [← hs1]; exact hs, by rw [← h.mu i he]; exact hm⟩
theorem Puts.moved {id : Nat} (h : Puts μ μ' X H H' w w' id) : Moved id (OO X H μ) (OO X H' μ') μ μ' w w' :=
  ⟨fun i l hi hl => by rw [h.mu i hi]; exact hl, h.oo, fun b hlt hn => h.blk b hlt fun m hm => by
    obtain ⟨o0, h0, hs0⟩ := h.live
    exact hn (.inr ⟨id, o0, m, h0, hs0, hm⟩)⟩
theorem Puts.ext {id : Nat} (h : Puts μ μ' X H H' w w' id) : Ext μ w μ' := fun i b m hi => by
  by_cases he : i = id
  · subst he
    exact (h.mid _ hi b m rfl).2.imp (fun ⟨m', hm'⟩ => ⟨i, m', hm'⟩) fun h => h
  · rw [h.mu i he] at hi; exact .inl ⟨i, m, hi⟩
theorem Puts.chg {id : Nat} (h : Puts μ μ' X H H' w w' id) : Chg μ w w' := ⟨h.os, h.tape, h.output, h.size, fun k hk hn => h.blk k hk fun m => hn id m⟩
theorem Puts.rel {id : Nat} (h : Puts μ μ' X H H' w w' id) (hH : HRel μ X H w) (hoth : ∀ i o', i ≠ id → H'[i]? = some o' → o'.st < 2 → ObjAt (OO X H' μ') w' μ' i o')
    (hnew : ∀ o', H'[id]? = some o' → o'.st < 2 → ObjAt (OO X H' μ') w' μ' id o') : HRel μ' X H' w' := by
  have hidlt : id < H.length := by obtain ⟨o, h0, _⟩ := h.live; exact (List.getElem?_eq_some_iff.1 h0).1
  refine ⟨fun i l hi => ?_, fun i j b m1 m2 hi hj => ?_, fun i b m hi => ?_, fun i o' hi hs => ?_, fun b hx => Nat.lt_of_lt_of_le (hH.xlt b hx) h.size, hH.gl.step h.size (fun b hlt _ hn => h.blk b hlt (hn id)) (fun _ h => .inl h) fun i b m hi => (h.ext i b m hi).imp (fun h => h) .inr⟩
  · by_cases he : i = id
    · subst he; rw [h.len]; exact hidlt
    · rw [h.mu i he] at hi; rw [h.len]; exact hH.dom i l hi
  · by_cases he : i = id <;> by_cases hf : j = id
    · omega
    · subst he
      rw [h.mu j hf] at hj
      rcases (h.mid _ hi b m1 rfl).2 with ⟨m', hm'⟩ | hge
      · exact hH.inj _ _ _ _ _ hm' hj
      · have := (hH.lt j b m2 hj).1; omega
    · subst hf
      rw [h.mu i he] at hi
      rcases (h.mid _ hj b m2 rfl).2 with ⟨m', hm'⟩ | hge
      · exact hH.inj _ _ _ _ _ hi hm'
      · have := (hH.lt i b m1 hi).1; omega
    · rw [h.mu i he] at hi; rw [h.mu j hf] at hj
      exact hH.inj _ _ _ _ _ hi hj
  · by_cases he : i = id
    · subst he
      obtain ⟨h1, h2⟩ := h.mid _ hi b m rfl
      refine ⟨h1, fun hx => ?_⟩
      rcases h2 with ⟨m', hm'⟩ | hge
      · exact (hH.lt _ b m' hm').2 hx
      · have := hH.xlt b hx; omega
    · rw [h.mu i he] at hi
      have := hH.lt i b m hi
      exact ⟨Nat.lt_of_lt_of_le this.1 h.size, this.2⟩
  · by_cases he : i = id
    · subst he; exact hnew o' hi hs
    · exact hoth i o' he hi hs
/-- Written in place. -/
theorem Puts.others {id : Nat} (h : Puts μ μ X H H' w w' id) (hH : HRel μ X H w) (hH' : ∀ i, i ≠ id → H'[i]? = H[i]?) :
    ∀ i o', i ≠ id → H'[i]? = some o' → o'.st < 2 → ObjAt (OO X H' μ) w' μ i o' := fun i o' hi ho hs => by
  rw [hH' i hi] at ho
  refine (hH.obj i o' ho hs).mono h.oo h.moved.blk (fun _ _ h => h) fun b m hm => h.blk b (hH.lt i b m hm).1 fun m' hm' => hi (hH.inj _ _ _ _ _ hm hm')
/-- It may lie elsewhere now: what names it is forgotten. -/
theorem Puts.others' {id : Nat} (h : Puts μ μ' X H H' w w' id) (hH : HRel μ X H w) (hH' : ∀ i, i ≠ id → H'[i]? = (H[i]?).map (forgetObj id)) :
    ∀ i o', i ≠ id → H'[i]? = some o' → o'.st < 2 → ObjAt (OO X H' μ') w' μ' i o' := fun i o' hi ho hs => by
  rw [hH' i hi] at ho
  simp only [Option.map_eq_some_iff] at ho
  obtain ⟨o, ho, rfl⟩ := ho
  rw [forgetObj_st] at hs
  obtain ⟨hz, hob⟩ := hH.obj i o ho hs
  have e1 : (forgetObj id o).sz = o.sz := by unfold forgetObj; split <;> rfl
  have e2 : (forgetObj id o).n = o.n := by unfold forgetObj; split <;> rfl
  have e3 : (forgetObj id o).T = o.T := by unfold forgetObj; split <;> rfl
  refine ⟨by rw [e1]; exact hz, ?_⟩
  rcases hob with ⟨h1, h2⟩ | ⟨b, m, cur, h1, h2⟩
  · exact .inl ⟨h.moved.mu _ _ hi h1, by rw [e2]; exact h2⟩
  · refine .inr ⟨b, m, cur, h.moved.mu _ _ hi h1, ?_⟩
    have hb := h.blk b (hH.lt i b m h1).1 fun m' hm' => hi (hH.inj _ _ _ _ _ h1 hm')
    refine ⟨by rw [e3]; exact hb.trans h2.blk, by rw [e1]; exact h2.size, h2.le, by rw [e2]; exact h2.nle, by rw [e1, e2]; exact h2.one, ?_, ?_⟩
    · rw [e2]; intro k hk
      unfold forgetObj
      split <;> simp [h2.flen k hk]
    · rw [e1, e2]
      intro k j a v hk ha hv
      cases hp : o.pure with
      | true =>
        have : forgetObj id o = o := by unfold forgetObj; rw [hp]
        rw [this] at ha ⊢
        have := h2.cell k j a v hk ha hv
        rw [hp] at this ⊢
        exact this.mono h.oo h.moved.blk _ fun _ _ h => h
      | false =>
        have hfp : (forgetObj id o).pure = false := by unfold forgetObj; rw [hp]
        rw [hfp]
        unfold forgetObj at ha
        rw [hp] at ha
        simp only [List.getElem?_map, Option.map_eq_some_iff] at ha
        obtain ⟨c, hc, rfl⟩ := ha
        have := h2.cell k j c v hk hc hv
        rw [hp] at this
        exact forget_rv h.moved 4 this
end
end Go.Proofs.YthdckgcalooipaaDoor
namespace Go.Proofs.YthdckgcalooipaaDoor
section
open Go.RowKit
set_option linter.unusedVariables false
set_option linter.unusedSimpArgs false
set_option linter.unusedSectionVars false
variable {P : Program} {tab : Tab} {X : Nat → Prop} {H H' : List AObj} {μ μ' : Mu} {w w' : World} {O O' : Nat → Prop}

structure NewOk (P : Program) (s : Sem Next) (O : Nat → Prop) (μ : Mu) (w : World) (id : Nat) (r : AV) (o : AObj) : Prop where
  st : o.st = 0
  sz : 0 < o.sz
  le : o.n ≤ maxLen
  flen : ∀ k, k < o.n → (o.f k).length = o.sz
  run : ∃ u cur, s.run P w = .ok (.value u) (w.alloc (.cells cur o.T)) ∧ cur.size = o.n * o.sz ∧ (∀ (k j : Nat) v, k < o.n → j < o.sz → cur[k * o.sz + j]? = some v → v.oneCell' = true) ∧
    (∀ (k j : Nat) a v, k < o.n → (o.f k)[j]? = some a → cur[k * o.sz + j]? = some v → RV O w (if o.pure then noMu else μ) a v) ∧
    ∀ O' w' (μ' : Mu), μ' id = some (some (w.heap.size, o.n)) → RV O' w' μ' r u
abbrev AnsN := Option (Prop × AV × AObj)
def lits (l : List Value) : List AV := l.map .lit
def aNewZero (i : TyI) (tab : Tab) (t id : Nat) : AnsN :=
  match i.k with
  | .arr n e => match tab e with
    | some ei => match Nat.blt 0 ei.sz, Nat.beq i.zero.length ei.sz, Nat.ble n 1000000 with
      | true, true, true => some (True, .ptr id ei.sz 0 0, { T := t, sz := ei.sz, n := n, f := fun _ => lits i.zero })
      | _, _, _ => none
    | none => none
  | _ => match Nat.blt 0 i.sz with
    | true => some (True, .ptr id i.sz 0 0, { T := t, sz := i.sz, n := 1, f := fun _ => lits i.zero, box := true })
    | false => none
theorem newVar_run {t : TypeId} {v : Value} : (do pure (.value (.pointer (some (← newVar t v)))) : Sem Next).run P w = .ok (.value (.pointer (some ⟨w.heap.size, 0, none⟩))) (w.alloc (.cells v.cells t)) := by
  simp [newVar, newRow]
theorem newZero_ok (hT : TabOk P tab) {t id : Nat} {i : TyI} (hi : tab t = some i) {r : AV} {o : AObj} {q : Prop} (h : aNewZero i tab t id = some (q, r, o)) : NewOk P (do pure (.value (← Instr.alloc t true (.tuple #[])))) O μ w id r o := by
  have hty := hT t i hi
  obtain ⟨z, hz, hzc⟩ := hty.zero (w := w)
  have hrun : (do pure (.value (← Instr.alloc t true (.tuple #[]))) : Sem Next).run P w = .ok (.value (.pointer (some ⟨w.heap.size, 0, none⟩))) (w.alloc (.cells z.cells t)) := by
    simp [Instr.alloc, hz, newVar, newRow]
  unfold aNewZero at h
  split at h
  · rename_i n e hk
    split at h
    · rename_i ei he
      split at h
      · rename_i h1 h2 h3
        injection h with h; injection h with _ h; injection h with e1 e2; subst e1 e2
        rw [Nat.blt_eq] at h1
        have h2 := beq_t h2
        have h3 := Nat.ble_eq.mp h3
        have hzc' : z.cells.toList = (List.replicate n i.zero).flatten := by rw [hzc]; unfold TyI.zeroCells; rw [hk]
        have hget : ∀ (k j : Nat) v, k < n → j < ei.sz → z.cells[k * ei.sz + j]? = some v → i.zero[j]? = some v := fun k j v hk hj hv => by
          rw [← Array.getElem?_toList, hzc', ← h2, getElem_flatten_replicate n _ k j hk (by omega)] at hv
          exact hv
        refine ⟨rfl, h1, by unfold maxLen; simp only; omega, fun k hk => by simp [lits, h2], _, _, hrun, ?_, fun k j v hk hj hv => ?_, fun k j a v hk ha hv => ?_, fun O' w' μ' hm => by simpa using RV.ptr (sz := ei.sz) (k := 0) (o := 0) hm⟩
        · rw [← Array.length_toList, hzc']; simp [h2]
        · have hm := hget k j v hk hj hv
          refine hty.zone v ?_
          unfold TyI.zeroCells
          simp only [hk, *]
          exact List.mem_flatten.2 ⟨i.zero, List.mem_replicate.2 ⟨by have : k < n := hk; omega, rfl⟩, List.mem_of_getElem? hm⟩
        · have hj : j < ei.sz := by have := (List.getElem?_eq_some_iff.1 ha).1; simpa [lits, h2] using this
          have hm := hget k j v hk hj hv
          simp only [lits, List.getElem?_map, Option.map_eq_some_iff] at ha
          obtain ⟨u, hu, rfl⟩ := ha
          rw [hu] at hm; injection hm with hm; subst hm
          exact .lit _
      · cases h
    · cases h
  · rename_i hk
    split at h
    · rename_i h1
      injection h with h; injection h with _ h; injection h with e1 e2; subst e1 e2
      rw [Nat.blt_eq] at h1
      have hzc' : i.zeroCells = i.zero := by
        unfold TyI.zeroCells
        split
        · rename_i n e hk'; exact (hk n e hk').elim
        · rfl
      have hlen : i.zero.length = i.sz := by rw [← hzc', hty.zlen]
      rw [hzc'] at hzc
      refine ⟨rfl, h1, by unfold maxLen; simp only; omega, fun k hk => by simp [lits, hlen], _, _, hrun, by rw [← Array.length_toList, hzc, hlen]; simp, fun k j v hk hj hv => ?_, fun k j a v hk ha hv => ?_, fun O' w' μ' hm => by simpa using RV.ptr (sz := i.sz) (k := 0) (o := 0) hm⟩
      · refine hty.zone v ?_
        rw [hzc', ← hzc]
        exact Array.mem_toList_iff.2 (Array.mem_of_getElem? hv)
      · obtain rfl : k = 0 := by simp only at hk; omega
        simp only [Nat.zero_mul, Nat.zero_add] at hv
        rw [← Array.getElem?_toList, hzc] at hv
        simp only [lits, List.getElem?_map, Option.map_eq_some_iff] at ha
        obtain ⟨u, hu, rfl⟩ := ha
        rw [hu] at hv; injection hv with hv; subst hv
        exact .lit _
    · cases h
/-- All cells of a value, where they may lie in memory. -/
def boxCells (a : AV) (sz : Nat) : Option (List AV) :=
  match cellsA a with
  | some cs => match Nat.beq cs.length sz, cs.all oneA with
    | true, true => some cs
    | _, _ => none
  | none => none
theorem boxCells_ok {a : AV} {sz : Nat} {cs : List AV} (h : boxCells a sz = some cs) {v : Value} (hv : RV O w μ a v) : cs.length = sz ∧ RVs O w μ cs v.cells.toList ∧ ∀ u ∈ v.cells.toList, u.oneCell' = true := by
  unfold boxCells at h
  split at h
  · rename_i cs' hc
    split at h
    · rename_i h1 h2
      injection h with h; subst h
      have hr := cellsA_rv hc hv
      refine ⟨beq_t h1, hr, fun u hu => ?_⟩
      obtain ⟨j, hj⟩ := List.getElem?_of_mem hu
      have hlt : j < cs'.length := by rw [hr.1]; exact (List.getElem?_eq_some_iff.1 hj).1
      exact oneA_one (List.all_eq_true.1 h2 _ (List.getElem_mem hlt)) (hr.2 j _ u (List.getElem?_eq_getElem hlt) hj)
    · cases h
  · cases h
def aBox (i : TyI) (t id : Nat) (x : AV) : AnsN :=
  match i.k, x with
  | .arr n _, .arr sz m f => match Nat.blt 0 sz, Nat.ble m 1000000, Nat.beq n m with
    | true, true, true => some (True, .ptr id sz 0 0, { T := t, sz := sz, n := m, f := f })
    | _, _, _ => none
  | .arr _ _, _ => none
  | _, _ => match boxCells x i.sz, Nat.blt 0 i.sz with
    | some cs, true => some (True, .ptr id i.sz 0 0, { T := t, sz := i.sz, n := 1, f := fun _ => cs, box := true, pure := cs.all (idfree 4) })
    | _, _ => none
theorem box_run {t : TypeId} {v : Value} : (do pure (.value (← Instr.box t v)) : Sem Next).run P w = .ok (.value (.pointer (some ⟨w.heap.size, 0, none⟩))) (w.alloc (.cells v.cells t)) := by
  simp [Instr.box, newVar, newRow]
theorem box_ok {i : TyI} {t id : Nat} {x r : AV} {o : AObj} {q : Prop} (h : aBox i t id x = some (q, r, o)) {v : Value} (hv : RV O w μ x v) : NewOk P (do pure (.value (← Instr.box t v))) O μ w id r o := by
  unfold aBox at h
  split at h
  · rename_i n e sz m f hk
    split at h
    · rename_i h1 h2 h3
      injection h with h; injection h with _ h; injection h with e1 e2; subst e1 e2
      rw [Nat.blt_eq] at h1
      have h2 := Nat.ble_eq.mp h2
      cases hv with
      | arr g0 g1 g2 g3 =>
        refine ⟨rfl, h1, by unfold maxLen; simp only; omega, g2, _, _, box_run, by simpa [Value.cells] using g1, fun k j v hk hj hv => g0 v (List.mem_of_getElem? (by simpa [Value.cells] using hv)), fun k j a v hk ha hv => g3 k j a v hk ha (by simpa [Value.cells] using hv), fun O' w' μ' hm => by simpa using RV.ptr (sz := sz) (k := 0) (o := 0) hm⟩
    · cases h
  · cases h
  · split at h
    · rename_i cs hc h1
      injection h with h; injection h with _ h; injection h with e1 e2; subst e1 e2
      rw [Nat.blt_eq] at h1
      obtain ⟨g1, g2, g3⟩ := boxCells_ok hc hv
      refine ⟨rfl, h1, by unfold maxLen; simp only; omega, fun k hk => g1, _, _, box_run, by rw [← Array.length_toList, ← g2.1, g1]; simp, fun k j v hk hj hv => g3 v (Array.mem_toList_iff.2 (Array.mem_of_getElem? hv)), fun k j a v hk ha hv => ?_, fun O' w' μ' hm => by simpa using RV.ptr (sz := i.sz) (k := 0) (o := 0) hm⟩
      obtain rfl : k = 0 := by simp only at hk; omega
      have hr := g2.2 j a v ha (by simpa using hv)
      simp only
      split
      · rename_i hp; exact idfree_rv 4 (List.all_eq_true.1 hp _ (List.mem_of_getElem? ha)) hr
      · exact hr
    · cases h

/-! literals of slices -/
def partsCells (ev : Operand → AV) (sz : Nat) : Nat → List (Nat × Operand) → Option (List (List AV))
  | _, [] => some []
  | k, (i, x) :: rest => match Nat.beq i k, boxCells (ev x) sz, partsCells ev sz (k + 1) rest with
    | true, some cs, some r => some (cs :: r)
    | _, _, _ => none
def getC (css : List (List AV)) (k : Nat) : List AV := (nth css k).getD []
def aBuildSlice (tab : Tab) (ev : Operand → AV) (t len : Nat) (parts : List (Nat × Operand)) (id : Nat) : AnsN :=
  match tab t with
  | some i => match i.k with
    | .slice e => match tab e with
      | some ei => match partsCells ev ei.sz 0 parts, Nat.beq parts.length len, Nat.blt 0 ei.sz, Nat.ble (len * ei.sz) 16777216 with
        | some css, true, true, true => some (True, .row id ei.sz 0 len none, { T := e, sz := ei.sz, n := len, f := getC css, pure := css.all fun cs => cs.all (idfree 4) })
        | _, _, _, _ => none
      | none => none
    | _ => none
  | none => none
theorem getElem_flatten {α : Type} (sz : Nat) : ∀ (l : List (List α)) (k j : Nat), (∀ c ∈ l, c.length = sz) → j < sz → l.flatten[k * sz + j]? = (l[k]?).bind (·[j]?)
  | [], k, j, _, _ => by simp
  | c :: l, 0, j, h, hj => by
    have := h c (by simp)
    rw [List.flatten_cons, List.getElem?_append_left (by omega)]; simp
  | c :: l, k + 1, j, h, hj => by
    have := h c (by simp)
    rw [List.flatten_cons, List.getElem?_append_right (by rw [Nat.add_mul]; omega)]
    rw [show (k + 1) * sz + j - c.length = k * sz + j by rw [Nat.add_mul]; omega, getElem_flatten sz l k j (fun c hc => h c (by simp [hc])) hj]
    simp
theorem fill_row (sz : Nat) : ∀ (parts : List (Nat × Value)) (k : Nat) (cells : Array Value), (∀ (j : Nat) p, parts[j]? = some p → p.1 = k + j ∧ p.2.cells.size = sz) → (k + parts.length) * sz = cells.size →
    ∃ rs : Array Value, Instr.fill (fun i => some (i * sz, sz)) cells parts = some rs ∧ rs.toList = cells.toList.take (k * sz) ++ (parts.map (·.2.cells.toList)).flatten
  | [], k, cells, h, hs => ⟨cells, rfl, by
    simp only [List.length_nil, Nat.add_zero] at hs
    rw [List.take_of_length_le (by simp; omega)]; simp⟩
  | (i, v) :: rest, k, cells, h, hs => by
    obtain ⟨h0, h1⟩ := h 0 (i, v) rfl
    simp only [Nat.add_zero] at h0 h1
    subst h0
    have hz : v.cells.zipIdx.foldl (fun cs (c, j) => cs.setIfInBounds (i * sz + j) c) cells = (v.cells.toList.zipIdx 0).foldl (fun cs (c, j) => cs.setIfInBounds (i * sz + j) c) cells := by
      rw [← Array.foldl_toList, Array.toList_zipIdx]
    simp only [List.length_cons] at hs
    have hb : i * sz + v.cells.size ≤ cells.size := by
      rw [← hs, h1, show i + (rest.length + 1) = (i + 1) + rest.length by omega, Nat.add_mul (i + 1), Nat.add_mul i 1]; omega
    have hf := fold_set (i * sz) v.cells.toList 0 cells (by simp; omega)
    simp only [Nat.add_zero] at hf
    obtain ⟨rs, g1, g2⟩ := fill_row sz rest (i + 1) (v.cells.zipIdx.foldl (fun cs (c, j) => cs.setIfInBounds (i * sz + j) c) cells) (fun j p hp => by
      have := h (j + 1) p (by simpa using hp)
      exact ⟨by omega, this.2⟩) (by rw [hz, ← Array.length_toList, hf, splice_length _ _ _ (by simp; omega)]; simp; rw [← hs]; congr 1; omega)
    refine ⟨rs, ?_, ?_⟩
    · simp only [Instr.fill]
      rw [if_neg (by simp; omega)]
      exact g1
    · rw [g2, hz, hf]
      unfold splice
      rw [List.take_left' (by simp [h1, Nat.add_mul]; omega)]
      simp
theorem partsCells_ok {ev : Operand → AV} {ρ : Operand → Value} (hr : ∀ x, RV O w μ (ev x) (ρ x)) (sz : Nat) : ∀ (parts : List (Nat × Operand)) (k : Nat) {css : List (List AV)}, partsCells ev sz k parts = some css →
    css.length = parts.length ∧ ∀ (j : Nat) p, parts[j]? = some p → p.1 = k + j ∧ (ρ p.2).cells.size = sz ∧ (∀ u ∈ (ρ p.2).cells.toList, u.oneCell' = true) ∧ ∃ cs, css[j]? = some cs ∧ cs.length = sz ∧ RVs O w μ cs (ρ p.2).cells.toList
  | [], k, css, h => by
    simp only [partsCells] at h
    injection h with h; subst h
    exact ⟨rfl, fun j p hp => by simp at hp⟩
  | (i, x) :: rest, k, css, h => by
    simp only [partsCells] at h
    split at h
    · rename_i cs r h1 h2 h3
      injection h with h; subst h
      obtain ⟨g1, g2⟩ := partsCells_ok hr sz rest (k + 1) h3
      obtain ⟨b1, b2, b3⟩ := boxCells_ok h2 (hr x)
      refine ⟨by simp [g1], fun j p hp => ?_⟩
      cases j with
      | zero =>
        simp at hp; subst hp
        exact ⟨by have := beq_t h1; omega, by rw [← Array.length_toList, ← b2.1, b1], b3, cs, rfl, b1, b2⟩
      | succ j =>
        obtain ⟨e1, e2, e3, cs', e4, e5, e6⟩ := g2 j p (by simpa using hp)
        exact ⟨by omega, e2, e3, cs', by simpa using e4, e5, e6⟩
    · cases h
theorem buildSlice_ok (hT : TabOk P tab) {ev : Operand → AV} {ρ : Operand → Value} (hr : ∀ x, RV O w μ (ev x) (ρ x)) {t len id : Nat} {parts : Array (Nat × Operand)} {r : AV} {o : AObj} {q : Prop} (h : aBuildSlice tab ev t len parts.toList id = some (q, r, o)) :
    NewOk P (do pure (.value (← Instr.buildSlice t len (parts.map fun (i, x) => (i, ρ x))))) O μ w id r o := by
  unfold aBuildSlice at h
  split at h
  · rename_i i hi
    have hu := (hT t i hi).und
    split at h
    · rename_i e hk
      rw [hk] at hu; simp only [UndOk] at hu
      split at h
      · rename_i ei he
        have hty := hT e ei he
        obtain ⟨z, hz, hzc⟩ := hty.zero (w := w)
        split at h
        · rename_i css h1 h2 h3 h4
          injection h with h; injection h with _ h; injection h with e1 e2; subst e1 e2
          have h2 := beq_t h2
          rw [Nat.blt_eq] at h3
          have h4 := Nat.ble_eq.mp h4
          obtain ⟨g1, g2⟩ := partsCells_ok hr ei.sz parts.toList 0 h1
          have hzs : z.cells.size = ei.sz := by rw [← Array.length_toList, hzc, hty.zlen]
          have hlen : len ≤ len * ei.sz := Nat.le_mul_of_pos_right _ h3
          obtain ⟨cells0, hc0, hc0s⟩ : ∃ cells0 : Array Value, (if len * ei.sz = 0 then (pure #[] : Sem (Array Value)) else do pure (← zeroValue e).cells).run P w = .ok (if len * ei.sz = 0 then #[] else z.cells) w ∧ (Array.range (len * ei.sz)).map (fun x => (if len * ei.sz = 0 then (#[] : Array Value) else z.cells)[x % (if len * ei.sz = 0 then (#[] : Array Value) else z.cells).size]!) = cells0 := by
            refine ⟨_, ?_, rfl⟩
            split
            · rfl
            · simp [hz]
          have hcs : cells0.size = len * ei.sz := by rw [← hc0s]; simp
          let vparts : List (Nat × Value) := parts.toList.map fun p => (p.1, ρ p.2)
          obtain ⟨rs, f1, f2⟩ := fill_row ei.sz vparts 0 cells0 (fun j p hp => by
            simp only [vparts, List.getElem?_map, Option.map_eq_some_iff] at hp
            obtain ⟨p', hp', rfl⟩ := hp
            exact ⟨(g2 j p' hp').1, (g2 j p' hp').2.1⟩) (by rw [hcs]; simp [vparts]; simp at h2; rw [h2])
          simp only [Nat.zero_mul, List.take_zero, List.nil_append] at f2
          have hflen : ∀ c ∈ vparts.map (·.2.cells.toList), c.length = ei.sz := by
            intro c hc
            obtain ⟨p, hp, rfl⟩ := List.mem_map.1 hc
            obtain ⟨j, hj⟩ := List.getElem?_of_mem hp
            simp only [vparts, List.getElem?_map, Option.map_eq_some_iff] at hj
            obtain ⟨p', hp', rfl⟩ := hj
            simpa using (g2 j p' hp').2.1
          have hget : ∀ (k j : Nat) v, k < len → j < ei.sz → rs[k * ei.sz + j]? = some v → ∃ p, parts.toList[k]? = some p ∧ (ρ p.2).cells.toList[j]? = some v := by
            intro k j v hk hj hv
            rw [← Array.getElem?_toList, f2, getElem_flatten ei.sz _ _ _ hflen hj] at hv
            obtain ⟨p, hp⟩ : ∃ p, parts.toList[k]? = some p := ⟨_, List.getElem?_eq_getElem (by omega)⟩
            simp only [vparts, List.map_map, List.getElem?_map, hp, Option.map_some, Option.bind_some, Function.comp] at hv
            exact ⟨p, hp, hv⟩
          have hrs : rs.size = len * ei.sz := by
            rw [← Array.length_toList, f2, List.length_flatten]
            have : (vparts.map (·.2.cells.toList)).map List.length = List.replicate len ei.sz := by
              rw [List.eq_replicate_iff]
              refine ⟨by simp [vparts]; simpa using h2, fun b hb => ?_⟩
              obtain ⟨c, hc, rfl⟩ := List.mem_map.1 hb
              exact hflen c hc
            rw [this]; simp
          have hrun : (do pure (.value (← Instr.buildSlice t len (parts.map fun (i, x) => (i, ρ x)))) : Sem Next).run P w = .ok (.value (.slice (some ⟨w.heap.size, 0, none⟩) len len)) (w.alloc (.cells rs e)) := by
            have hp : (parts.map fun (i, x) => (i, ρ x)).toList = vparts := by simp [vparts]
            have hif : ¬ len * ei.sz > 2 ^ 24 := by omega
            simp only [Instr.buildSlice, Sem.run_bind, run_underlying hu, Result.andThen_ok, hty.run_size, if_neg hif, hp, newRow, Sem.run_pure, Sem.run_ite]
            by_cases h0 : len * ei.sz = 0
            · simp only [if_pos h0] at hc0s ⊢
              rw [hc0s, f1]
              simp
            · simp only [if_neg h0] at hc0s ⊢
              rw [hz]
              simp only [Result.andThen_ok]
              rw [hc0s, f1]
              simp
          refine ⟨rfl, h3, by unfold maxLen; simp only; omega, fun k hk => ?_, _, _, hrun, hrs, fun k j v hk hj hv => ?_, fun k j a v hk ha hv => ?_, fun O' w' μ' hm => ?_⟩
          · obtain ⟨p, hp⟩ : ∃ p, parts.toList[k]? = some p := ⟨_, List.getElem?_eq_getElem (by have : k < len := hk; omega)⟩
            obtain ⟨_, _, _, cs, hcs', hl, _⟩ := g2 k p hp
            simp only [getC, nth_eq, hcs', Option.getD_some, hl]
          · obtain ⟨p, hp, hv'⟩ := hget k j v hk hj hv
            exact (g2 k p hp).2.2.1 v (List.mem_of_getElem? hv')
          · have hk : k < len := hk
            obtain ⟨p0, hp0⟩ : ∃ p, parts.toList[k]? = some p := ⟨_, List.getElem?_eq_getElem (by omega)⟩
            obtain ⟨_, _, _, cs, hcs', hl, hrv⟩ := g2 k p0 hp0
            simp only [getC, nth_eq, hcs', Option.getD_some] at ha
            have hj : j < ei.sz := by have := (List.getElem?_eq_some_iff.1 ha).1; omega
            obtain ⟨p, hp, hv'⟩ := hget k j v hk hj hv
            rw [hp0] at hp; injection hp with hp; subst hp
            have hr1 := hrv.2 j a v ha hv'
            simp only
            split
            · rename_i hpu
              exact idfree_rv 4 (List.all_eq_true.1 (List.all_eq_true.1 hpu _ (List.mem_of_getElem? hcs')) _ (List.mem_of_getElem? ha)) hr1
            · exact hr1
          · have hm : μ' id = some (some (w.heap.size, len)) := hm
            have := RV.row (O := O') (w := w') (sz := ei.sz) (off := 0) (n := len) (c := len) (cap := none) hm (Nat.le_refl _) (by omega) (fun q hq => by cases hq) (fun _ => by omega)
            simpa using this
        · cases h
      · cases h
    · cases h
  · cases h
def aMakeSlice (tab : Tab) (t : TypeId) (l c : AV) (id : Nat) : AnsN :=
  match tab t, l, c with
  | some i, .lit (.int _ z), .lit (.int _ z') => match i.k with
    | .slice e => match tab e with
      | some ei => match Nat.blt 0 ei.sz, ei.k.isAgg with
        | true, _ => some (z' = z ∧ 0 ≤ z ∧ z ≤ 1000000000000 ∧ z * ei.by_ ≤ 140737488355328, .row id ei.sz 0 z.toNat none, { T := e, sz := ei.sz, n := z.toNat, f := fun _ => lits ei.zeroCells })
        | _, _ => none
      | none => none
    | _ => none
  | _, _, _ => none
theorem makeSlice_ok (hT : TabOk P tab) {t id : Nat} {l c : AV} {r : AV} {o : AObj} {q : Prop} (h : aMakeSlice tab t l c id = some (q, r, o)) (hq : q) {lv cv : Value} (hl : RV O w μ l lv) (hc : RV O w μ c cv) :
    NewOk P (do pure (.value (← Instr.makeSlice t lv cv))) O μ w id r o := by
  unfold aMakeSlice at h
  split at h
  · rename_i i kl z kc z' hi
    have hu := (hT t i hi).und
    split at h
    · rename_i e hk
      rw [hk] at hu; simp only [UndOk] at hu
      split at h
      · rename_i ei he
        have hty := hT e ei he
        obtain ⟨f, hf, hfs, hfb, zv, hzv, hzc⟩ := hty.info
        split at h
        · rename_i h1
          injection h with h; injection h with e0 h; injection h with e1 e2; subst e0 e1 e2
          obtain ⟨rfl, q1, q2, q3⟩ := hq
          rw [Nat.blt_eq] at h1
          cases hl; cases hc
          have hrun := run_make (P := P) w t e f zv hu hf hzv kl kc z' z' q1 (Int.le_refl _) (by rw [hfb, Int.mul_comm]; omega) (by omega)
          have hzs : zv.cells.size = ei.sz := by rw [← Array.length_toList, hzc, hty.zlen]
          have hget : ∀ (k j : Nat) v, k < z'.toNat → j < ei.sz → (madeCells zv.cells (z'.toNat * f.size))[k * ei.sz + j]? = some v → ei.zeroCells[j]? = some v := by
            intro k j v hk hj hv
            have hlt : k * ei.sz + j < z'.toNat * ei.sz := by
              have : (k + 1) * ei.sz ≤ z'.toNat * ei.sz := Nat.mul_le_mul_right _ hk
              rw [Nat.add_mul] at this; omega
            have hmod : (k * ei.sz + j) % zv.cells.size = j := by rw [hzs, Nat.mul_comm, Nat.mul_add_mod]; exact Nat.mod_eq_of_lt hj
            simp only [madeCells, hfs, Array.getElem?_map, Array.getElem?_range, hlt, if_true, Option.map_some, Option.some.injEq] at hv
            rw [hmod] at hv
            rw [← hzc, ← hv, Array.getElem?_toList, Array.getElem?_eq_getElem (by omega)]
            simp [show j < zv.cells.size by omega]
          refine ⟨rfl, h1, by unfold maxLen; simp only; omega, fun k hk => by simp [lits, hty.zlen], _, _, (by simp only [Sem.run_bind, hrun, Result.andThen_ok, Sem.run_pure]; rfl), by rw [size_madeCells, hfs], fun k j v hk hj hv => hty.zone v (List.mem_of_getElem? (hget k j v hk hj hv)), fun k j a v hk ha hv => ?_, fun O' w' μ' hm => ?_⟩
          · have hj : j < ei.sz := by have := (List.getElem?_eq_some_iff.1 ha).1; simpa [lits, hty.zlen] using this
            have hm := hget k j v hk hj hv
            simp only [lits, List.getElem?_map, Option.map_eq_some_iff] at ha
            obtain ⟨u, hu, rfl⟩ := ha
            rw [hu] at hm; injection hm with hm; subst hm
            exact .lit _
          · have hm : μ' id = some (some (w.heap.size, z'.toNat)) := hm
            have := RV.row (O := O') (w := w') (sz := ei.sz) (off := 0) (n := z'.toNat) (c := z'.toNat) (cap := none) hm (Nat.le_refl _) (by omega) (fun q hq => by cases hq) (fun _ => by omega)
            simpa using this
        · cases h
      · cases h
    · cases h
  · cases h
/-- What an operation makes. -/
def aNew (tab : Tab) (ev : Operand → AV) (id : Nat) : Op → AnsN
  | .alloc t => match tab t with | some i => aNewZero i tab t id | none => none
  | .box t x => match tab t with | some i => aBox i t id (ev x) | none => none
  | .buildSlice t len parts => aBuildSlice tab ev t len parts.toList id
  | .makeSlice t l c => aMakeSlice tab t (ev l) (ev c) id
  | _ => none
theorem new_ok (hT : TabOk P tab) {ev : Operand → AV} {ρ : Operand → Value} (hr : ∀ x, RV O w μ (ev x) (ρ x)) {id : Nat} {r : AV} {ob : AObj} {q : Prop} {o : Oper} (h : aNew tab ev id o.op = some (q, r, ob)) (hq : q) : NewOk P (execOp ρ o) O μ w id r ob := by
  unfold execOp
  generalize o.op = op at h
  cases op <;> simp only [aNew, reduceCtorEq] at h <;> try (cases h; done)
  all_goals dsimp only
  case alloc t => split at h; exact newZero_ok hT ‹_› h; cases h
  case box t x => split at h; exact box_ok h (hr x); cases h
  case buildSlice t len parts => exact buildSlice_ok hT hr h
  case makeSlice t l c => exact makeSlice_ok hT h hq (hr l) (hr c)
end
end Go.Proofs.YthdckgcalooipaaDoor
namespace Go.Proofs.YthdckgcalooipaaDoor
section
open Go.RowKit
set_option linter.unusedVariables false
set_option linter.unusedSimpArgs false
set_option linter.unusedSectionVars false
variable {P : Program} {tab : Tab} {X : Nat → Prop} {H H' : List AObj} {μ μ' : Mu} {w w' : World} {O O' : Nat → Prop}

def fgA : Option Nat → AV → AV
  | none, a => a
  | some id, a => forget id 4 a
/-- What an operation does: its answer, the objects behind it, and what is not known any more. -/
def MutOk (P : Program) (s : Sem Next) (X : Nat → Prop) (μ : Mu) (H : List AObj) (w : World) (r : AV) (H' : List AObj) (fg : Option Nat) : Prop :=
  ∃ n u w' μ', s.run P w = .ok n w' ∧ (n = .value u ∨ (n = .skip ∧ u = undef)) ∧ HRel μ' X H' w' ∧ Ext μ w μ' ∧ Chg μ w w' ∧ RV (OO X H' μ') w' μ' r u ∧ ∀ (k : Nat) a v, RV (OO X H μ) w (upto k μ) a v → RV (OO X H' μ') w' (upto k μ') (fgA fg a) v ∧ ((∀ id, fg = some id → k ≤ id) → RV (OO X H' μ') w' (upto k μ') a v)
theorem NewOk.mut (hH : HRel μ X H w) {s : Sem Next} {r : AV} {o : AObj} (h : NewOk P s (OO X H μ) μ w H.length r o) : MutOk P s X μ H w r (H ++ [o]) none := by
  obtain ⟨u, cur, h1, h2, h3, h4, h5⟩ := h.run
  obtain ⟨g1, g2, g3, g4, g5⟩ := hH.new (o := o) (m := o.n) (cur := cur) h.sz h2 h.le (Nat.le_refl _) h3 h.flen h4
  exact ⟨_, u, _, _, h1, .inl rfl, g1, g3, g4, h5 _ _ _ (by simp), fun k a v h => ⟨g5 k h, fun _ => g5 k h⟩⟩
theorem splice_get {α : Type} {l cs : List α} {off : Nat} (h : off + cs.length ≤ l.length) (i : Nat) : (splice l off cs)[i]? = if i < off then l[i]? else if i < off + cs.length then cs[i - off]? else l[i]? := by
  unfold splice
  have e1 : (l.take off).length = off := by simp; omega
  by_cases h1 : i < off
  · rw [if_pos h1, List.append_assoc, List.getElem?_append_left (by omega), List.getElem?_take, if_pos h1]
  · rw [if_neg h1, List.append_assoc, List.getElem?_append_right (by omega), e1]
    by_cases h2 : i < off + cs.length
    · rw [if_pos h2, List.getElem?_append_left (by omega)]
    · rw [if_neg h2, List.getElem?_append_right (by omega), List.getElem?_drop]
      congr 1; omega
def upd (f : Nat → List AV) (k : Nat) (c : List AV) : Nat → List AV := fun q => match Nat.beq q k with | true => c | false => f q
def storeObj (i : TyI) (ob : AObj) (k o : Nat) (x : AV) : Option (Prop × AObj) :=
  match i.k, x with
  | .arr n _, .arr sz m f => match ob.box, Nat.beq m n, Nat.beq sz ob.sz, Nat.beq i.sz (n * sz), Nat.beq o 0 with
    | false, true, true, true, true => some (k = 0 ∧ ob.n = n, { ob with f := f })
    | _, _, _, _, _ => none
  | _, _ => match boxCells x i.sz, Nat.ble (o + i.sz) ob.sz with
    | some cs, true => some (k < ob.n, { ob with f := match ob.box with | true => fun _ => splice (ob.f 0) o cs | false => upd ob.f k (splice (ob.f k) o cs), pure := ob.pure && cs.all (idfree 4) })
    | _, _ => none
def aStore (tab : Tab) (H : List AObj) (t : TypeId) (p x : AV) : Option (Prop × List AObj) :=
  match tab t, p with
  | some i, .ptr id sz k o => match nth H id with
    | some ob => match ob.st, Nat.beq ob.sz sz with
      | 0, true => match storeObj i ob k o x with
        | some (q, ob') => some (q ∧ (ob.box = true → ob.n = 1), setn H id ob')
        | none => none
      | _, _ => none
    | none => none
  | _, _ => none
/-- The cells vs are stored in object id, from cell k * sz + o on. -/
theorem store_put (hH : HRel μ X H w) {id b m off : Nat} {ob ob' : AObj} {cur : Array Value} (hid : H[id]? = some ob) (hs : ob.st = 0) (hm : μ id = some (some (b, m))) (hin : ObjIn (OO X H μ) w μ b m ob cur) (hz : 0 < ob.sz)
    {t : TypeId} {i : TyI} (hty : TyOk P t i) {v : Value} (hl : v.cells.toList.length = i.sz) (hb : off + i.sz ≤ cur.size) (h1 : ∀ u ∈ v.cells.toList, u.oneCell' = true)
    (e1 : ob'.T = ob.T) (e2 : ob'.sz = ob.sz) (e3 : ob'.n = ob.n) (e4 : ob'.st = ob.st)
    (hone : ∀ (k j : Nat) v', k < ob.n → j < ob.sz → (splice cur.toList off v.cells.toList)[k * ob.sz + j]? = some v' → v'.oneCell' = true)
    (hf : ∀ k, k < ob.n → (ob'.f k).length = ob.sz)
    (hc : ∀ (k j : Nat) a v', k < ob.n → (ob'.f k)[j]? = some a → (splice cur.toList off v.cells.toList)[k * ob.sz + j]? = some v' → RV (OO X H μ) w (if ob'.pure then noMu else μ) a v') :
    MutOk P (do Instr.storeAt t (.pointer (some ⟨b, off, none⟩)) v; pure .skip) X μ H w (.lit undef) (H.set id ob') none := by
  have hidlt : id < H.length := (List.getElem?_eq_some_iff.1 hid).1
  have hrun := run_storeCells_at P b off ob.T v.cells.toList 0 cur w hin.blk (by omega) h1
  simp only [Nat.add_zero] at hrun
  let cur' : Array Value := (splice cur.toList off v.cells.toList).toArray
  have hst : (do Instr.storeAt t (.pointer (some ⟨b, off, none⟩)) v; pure .skip : Sem Next).run P w = .ok .skip (w.setRow b cur') := by
    have hsz : v.cells.size = i.sz := by simpa using hl
    simp only [Instr.storeAt, Instr.sureAddr, storeVar, Sem.run_bind, Sem.run_pure, Result.andThen_ok, hty.run_size, hsz, ne_eq, not_true_eq_false, if_false, hrun]
    rfl
  have hpu : Puts μ μ X H (H.set id ob') w (w.setRow b cur') id :=
    ⟨⟨ob, hid, hs⟩, by simp, fun i o' hi ho => by rw [List.getElem?_set_ne (Ne.symm hi)] at ho; exact ⟨o', ho, rfl⟩, fun _ _ => rfl, fun l hl' b' m' he => by
      subst he
      rw [hm] at hl'; injection hl' with hl'; injection hl' with hl'; injection hl' with g1 g2; subst g1
      exact ⟨by simp; exact (Array.getElem?_eq_some_iff.1 hin.blk).1, .inl ⟨_, hm⟩⟩, by simp, rfl, rfl, rfl, fun b' hb' hn => setRow_other w b b' cur' fun he => hn m (by rw [he]; exact hm)⟩
  refine ⟨.skip, undef, w.setRow b cur', μ, hst, .inr ⟨rfl, rfl⟩, hpu.rel hH (hpu.others hH fun i hi => List.getElem?_set_ne (Ne.symm hi)) fun o' ho' _ => ?_, hpu.ext, hpu.chg, .lit _, fun k a v' h => ⟨h.mono hpu.oo hpu.moved.blk _ fun _ _ h => h, fun _ => h.mono hpu.oo hpu.moved.blk _ fun _ _ h => h⟩⟩
  rw [List.getElem?_set_self hidlt] at ho'
  injection ho' with ho'; subst ho'
  refine ⟨by rw [e2]; exact hz, .inr ⟨b, m, cur', hm, by rw [e1]; exact setRow_heap w b cur cur' ob.T (0, 0) hin.blk, ?_, hin.le, by rw [e3]; exact hin.nle, ?_, ?_, ?_⟩⟩
  · rw [e2]
    simp only [cur', List.size_toArray]
    rw [splice_length _ _ _ (by simp at hl ⊢; omega)]
    simpa using hin.size
  · rw [e2, e3]; intro k j v' hk hj hv; exact hone k j v' hk hj (by simpa [cur'] using hv)
  · rw [e2, e3]; exact hf
  · rw [e2, e3]; intro k j a v' hk ha hv; exact (hc k j a v' hk ha (by simpa [cur'] using hv)).mono hpu.oo hpu.moved.blk _ fun _ _ h => h
theorem cell_out {k k' sz o n j : Nat} (hne : k' ≠ k) (hj : j < sz) (ho : o + n ≤ sz) : k' * sz + j < k * sz + o ∨ k * sz + o + n ≤ k' * sz + j := by
  rcases Nat.lt_or_gt_of_ne hne with h | h
  · left
    have : (k' + 1) * sz ≤ k * sz := Nat.mul_le_mul_right _ h
    rw [Nat.add_mul] at this; omega
  · right
    have : (k + 1) * sz ≤ k' * sz := Nat.mul_le_mul_right _ h
    rw [Nat.add_mul] at this; omega
theorem store_sound (hT : TabOk P tab) (hH : HRel μ X H w) {t : TypeId} {p x : AV} {q : Prop} {H' : List AObj} (h : aStore tab H t p x = some (q, H')) (hq : q) {pv v : Value} (hp : RV (OO X H μ) w μ p pv) (hv : RV (OO X H μ) w μ x v) :
    MutOk P (do Instr.storeAt t pv v; pure .skip) X μ H w (.lit undef) H' none := by
  unfold aStore at h
  split at h
  · rename_i i id sz k o hi
    have hty := hT t i hi
    split at h
    · rename_i ob hob
      split at h
      · rename_i hst hsz
        have hsz := beq_t hsz
        subst hsz
        split at h
        · rename_i q' ob' hso
          injection h with h; injection h with e1 e2; subst e1 e2
          obtain ⟨hq, hbox⟩ := hq
          cases hp with
          | ptr hm =>
            rename_i b m
            obtain ⟨hz, cur, hin⟩ := hH.at_ hob (by omega) hm
            rw [setn_eq]
            rw [nth_eq] at hob
            unfold storeObj at hso
            split at hso
            · rename_i n e sz2 m2 f hk
              split at hso
              · rename_i hb1 hb2 hb3 hb4 hb5
                obtain rfl := beq_t hb2
                have hb3 := beq_t hb3
                have hb4 := beq_t hb4
                obtain rfl := beq_t hb5
                injection hso with hso; injection hso with e1 e2; subst e1 e2
                obtain ⟨rfl, hn⟩ := hq
                subst hb3
                cases hv with
                | arr g0 g1 g2 g3 =>
                  rename_i vs
                  have hvl : (Value.agg vs.toArray).cells.toList.length = i.sz := by simp [Value.cells, g1, hb4]
                  have hcs : m2 * ob.sz ≤ cur.size := by rw [hin.size]; exact Nat.mul_le_mul_right _ (by have := hin.nle; omega)
                  have hget : ∀ (k j : Nat) v', k < ob.n → j < ob.sz → (splice cur.toList (0 * ob.sz + 0) (Value.agg vs.toArray).cells.toList)[k * ob.sz + j]? = some v' → vs[k * ob.sz + j]? = some v' := by
                    intro k j v' hk hj hv'
                    have hlt : k * ob.sz + j < m2 * ob.sz := by
                      have : (k + 1) * ob.sz ≤ m2 * ob.sz := Nat.mul_le_mul_right _ (by omega)
                      rw [Nat.add_mul] at this; omega
                    rw [splice_get (by simp [Value.cells, g1]; omega)] at hv'
                    simp only [Value.cells, Nat.zero_mul, Nat.zero_add, Nat.not_lt_zero, if_false, Nat.sub_zero, g1, hlt, if_true] at hv'
                    exact hv'
                  exact store_put hH hob hst hm hin hz hty hvl (by rw [hb4]; omega) (by simpa [Value.cells] using g0) rfl rfl rfl rfl (fun k j v' hk hj hv' => g0 v' (List.mem_of_getElem? (hget k j v' hk hj hv')))
                    (fun k hk => g2 k (by omega)) fun k j a v' hk ha hv' => by
                      have hj : j < ob.sz := by rw [← g2 k (by omega)]; exact (List.getElem?_eq_some_iff.1 ha).1
                      have := g3 k j a v' (by omega) ha (hget k j v' hk hj hv')
                      simp only
                      split
                      · exact this
                      · exact this.up
              · cases hso
            · split at hso
              · rename_i cs hcs hle
                have hle := Nat.ble_eq.mp hle
                injection hso with hso; injection hso with e1 e2; subst e1 e2
                obtain ⟨c1, c2, c3⟩ := boxCells_ok hcs hv
                have hvl : v.cells.toList.length = i.sz := by rw [← c2.1, c1]
                have hkb : k * ob.sz + ob.sz ≤ cur.size := by
                  have : (k + 1) * ob.sz ≤ m * ob.sz := Nat.mul_le_mul_right _ (by have := hin.nle; omega)
                  rw [hin.size]; rw [Nat.add_mul] at this; omega
                have hoff : k * ob.sz + o + i.sz ≤ cur.size := by omega
                obtain ⟨us, u1, u2, u3, _⟩ := elem_cells hz hin hq
                have hsl : (k * ob.sz + o) + v.cells.toList.length ≤ cur.toList.length := by rw [hvl]; simp; omega
                -- element k itself
                have hk_get : ∀ (j : Nat) v', j < ob.sz → (splice cur.toList (k * ob.sz + o) v.cells.toList)[k * ob.sz + j]? = some v' → (splice us o v.cells.toList)[j]? = some v' := by
                  intro j v' hj hv'
                  rw [splice_get hsl] at hv'
                  rw [splice_get (by rw [hvl, u2]; omega)]
                  by_cases h1 : j < o
                  · rw [if_pos h1]; rw [if_pos (by omega)] at hv'
                    have hju : j < us.length := by omega
                    have := u3 j _ (List.getElem?_eq_getElem hju)
                    rw [Array.getElem?_toList, this] at hv'
                    rw [← hv']; exact List.getElem?_eq_getElem hju
                  · rw [if_neg h1]; rw [if_neg (by omega)] at hv'
                    by_cases h2 : j < o + v.cells.toList.length
                    · rw [if_pos h2]; rw [if_pos (by omega)] at hv'
                      rw [← hv']; congr 1; omega
                    · rw [if_neg h2]; rw [if_neg (by omega)] at hv'
                      have hju : j < us.length := by omega
                      have := u3 j _ (List.getElem?_eq_getElem hju)
                      rw [Array.getElem?_toList, this] at hv'
                      rw [← hv']; exact List.getElem?_eq_getElem hju
                have hne_get : ∀ (k' j : Nat) v', k' ≠ k → j < ob.sz → (splice cur.toList (k * ob.sz + o) v.cells.toList)[k' * ob.sz + j]? = some v' → cur[k' * ob.sz + j]? = some v' := by
                  intro k' j v' hne hj hv'
                  rw [splice_get hsl] at hv'
                  rcases cell_out hne hj (n := i.sz) hle with h1 | h1
                  · rw [if_pos h1] at hv'; simpa using hv'
                  · rw [if_neg (by omega), if_neg (by omega)] at hv'; simpa using hv'
                have hfk : ∀ k', k' < ob.n → (match ob.box with | true => fun _ => splice (ob.f 0) o cs | false => upd ob.f k (splice (ob.f k) o cs)) k' = if k' = k then splice (ob.f k) o cs else ob.f k' := by
                  intro k' hk'
                  cases hbx : ob.box with
                  | true =>
                    have := hbox hbx
                    rw [if_pos (by omega), show k = 0 by omega]
                  | false =>
                    simp only [upd]
                    by_cases he : k' = k
                    · rw [if_pos he, he]; simp
                    · rw [if_neg he]
                      have : Nat.beq k' k = false := by
                        cases hbb : Nat.beq k' k with
                        | false => rfl
                        | true => exact (he (beq_t hbb)).elim
                      rw [this]
                have hspl : (splice (ob.f k) o cs).length = ob.sz := by rw [splice_length _ _ _ (by rw [hin.flen k hq, c1]; omega), hin.flen k hq]
                refine store_put hH hob hst hm hin hz hty hvl (by omega) c3 rfl rfl rfl rfl (fun k' j v' hk' hj hv' => ?_) (fun k' hk' => ?_) fun k' j a v' hk' ha hv' => ?_
                · by_cases he : k' = k
                  · subst he
                    have := hk_get j v' hj hv'
                    rw [splice_get (by rw [hvl, u2]; omega)] at this
                    split at this
                    · exact hin.one k' j v' hk' hj (u3 j v' this)
                    · split at this
                      · exact c3 v' (List.mem_of_getElem? this)
                      · exact hin.one k' j v' hk' hj (u3 j v' this)
                  · exact hin.one k' j v' hk' hj (hne_get k' j v' he hj hv')
                · simp only; rw [hfk k' hk']
                  split
                  · exact hspl
                  · exact hin.flen k' hk'
                · simp only at ha ⊢
                  rw [hfk k' hk'] at ha
                  split at ha
                  · rename_i he; subst he
                    have hj : j < ob.sz := by rw [← hspl]; exact (List.getElem?_eq_some_iff.1 ha).1
                    have hg := hk_get j v' hj hv'
                    by_cases hpu : (ob.pure && cs.all (idfree 4)) = true
                    · rw [if_pos hpu]
                      rw [Bool.and_eq_true] at hpu
                      rw [hpu.1] at u1
                      have c2' : RVs (OO X H μ) w noMu cs v.cells.toList := ⟨c2.1, fun j a v ha hv => idfree_rv 4 (List.all_eq_true.1 hpu.2 _ (List.mem_of_getElem? ha)) (c2.2 j a v ha hv)⟩
                      exact ((show RVs _ _ noMu _ _ from u1).splice_ c2').2 j a v' ha hg
                    · rw [if_neg hpu]
                      exact (u1.opt.splice_ c2).2 j a v' ha hg
                  · rename_i he
                    have hj : j < ob.sz := by rw [← hin.flen k' hk']; exact (List.getElem?_eq_some_iff.1 ha).1
                    have hr := hin.cell k' j a v' hk' ha (hne_get k' j v' he hj hv')
                    by_cases hpu : (ob.pure && cs.all (idfree 4)) = true
                    · rw [if_pos hpu]
                      rw [Bool.and_eq_true] at hpu
                      rw [hpu.1] at hr; exact hr
                    · rw [if_neg hpu]
                      cases hp : ob.pure with
                      | true => rw [hp] at hr; exact RV.up hr
                      | false => rw [hp] at hr; exact hr
              · cases hso
        · cases h
      · cases h
    · cases h
  · cases h

/-! appends -/
def srcOf (H : List AObj) (sz : Nat) : AV → Option (Prop × Nat × (Nat → List AV))
  | .sl sz' m _ g => match Nat.beq sz' sz with | true => some (True, m, g) | false => none
  | .row id sz' off m _ => match nth H id with
    | some ob => match Nat.beq sz' sz, Nat.beq ob.sz sz, Nat.blt ob.st 2, ob.pure with
      | true, true, true, true => some (off + m ≤ ob.n, m, match off with | 0 => ob.f | off => fun k => ob.f (off + k))
      | _, _, _, _ => none
    | none => none
  | .lit (.slice none 0 0) => some (True, 0, fun _ => [])
  | _ => none
theorem src_ok (hH : HRel μ X H w) {sz m : Nat} {g : Nat → List AV} {q : Prop} {y : AV} (h : srcOf H sz y = some (q, m, g)) (hq : q) {v : Value} (hv : RV (OO X H μ) w μ y v) :
    ∃ (A : Option Addr) (c : Nat) (news : List Value), v = .slice A m c ∧ news.length = m * sz ∧ (∀ u ∈ news, u.oneCell' = true) ∧ (m ≠ 0 → ∃ a : Addr, A = some a ∧ ∀ j u, news[j]? = some u → w.cell? (a.add j) = some u) ∧ (∀ k, k < m → (g k).length = sz) ∧
      ∀ (k j : Nat) a v, k < m → (g k)[j]? = some a → news[k * sz + j]? = some v → RV (OO X H μ) w noMu a v := by
  unfold srcOf at h
  split at h
  · rename_i sz' m' tt g'
    split at h
    · rename_i hb
      obtain rfl := beq_t hb
      injection h with h; injection h with _ h; injection h with e1 e2; subst e1 e2
      cases hv with
      | sl h0 h1 h2 h3 h4 h5 h6 h7 h8 =>
        rename_i A c vs
        refine ⟨A, c, vs, rfl, h4, h0, fun hm => ?_, h5, h6⟩
        obtain ⟨gg, o, rfl, _, hcell⟩ := h8 hm
        exact ⟨_, rfl, fun j u hu => by rw [Addr.add_mid]; exact hcell j u hu⟩
    · cases h
  · rename_i id sz' off m' cap
    split at h
    · rename_i ob hob
      split at h
      · rename_i hb1 hb2 hst hpu
        obtain rfl := beq_t hb1
        have hb2 := beq_t hb2
        rw [Nat.blt_eq] at hst
        injection h with h; injection h with h1 h; injection h with e1 e2; subst h1 e1 e2
        have hg : ∀ k, (match off with | 0 => ob.f | off => fun k => ob.f (off + k)) k = ob.f (off + k) := fun k => by cases off <;> simp
        have empty : m' = 0 → (∃ A c, v = .slice A m' c) → ∃ (A : Option Addr) (c : Nat) (news : List Value), v = .slice A m' c ∧ news.length = m' * sz' ∧ (∀ u ∈ news, u.oneCell' = true) ∧ (m' ≠ 0 → ∃ a : Addr, A = some a ∧ ∀ j u, news[j]? = some u → w.cell? (a.add j) = some u) ∧ (∀ k, k < m' → ((match off with | 0 => ob.f | off => fun k => ob.f (off + k)) k).length = sz') ∧
            ∀ (k j : Nat) a v, k < m' → ((match off with | 0 => ob.f | off => fun k => ob.f (off + k)) k)[j]? = some a → news[k * sz' + j]? = some v → RV (OO X H μ) w noMu a v := by
          rintro rfl ⟨A, c, rfl⟩
          exact ⟨A, c, [], rfl, by simp, by simp, fun h => (h rfl).elim, fun k hk => by omega, fun k j a v hk => by omega⟩
        cases hv with
        | rowNil => exact empty rfl ⟨_, _, rfl⟩
        | rowE => exact empty rfl ⟨_, _, rfl⟩
        | row hm hn hc hcap hend =>
          rename_i b mb c
          obtain ⟨hz, cur, hin⟩ := hH.at_ hob hst hm
          subst hb2
          have hsz : (off + m') * ob.sz ≤ cur.size := by rw [hin.size]; exact Nat.mul_le_mul_right _ (by have := hin.nle; omega)
          rw [Nat.add_mul] at hsz
          have hl : ((cur.toList.drop (off * ob.sz)).take (m' * ob.sz)).length = m' * ob.sz := by simp; omega
          have hget : ∀ (k j : Nat) v, k < m' → j < ob.sz → ((cur.toList.drop (off * ob.sz)).take (m' * ob.sz))[k * ob.sz + j]? = some v → cur[(off + k) * ob.sz + j]? = some v := by
            intro k j v hk hj hv
            rw [List.getElem?_take] at hv
            split at hv
            · rw [Nat.add_mul, Nat.add_assoc]; simpa using hv
            · cases hv
          refine ⟨_, c, (cur.toList.drop (off * ob.sz)).take (m' * ob.sz), rfl, hl, fun u hu => ?_, fun _ => ⟨_, rfl, fun j u hu => ?_⟩, fun k hk => by rw [hg]; exact hin.flen _ (by omega), fun k j a v hk ha hv => ?_⟩
          · obtain ⟨p, hp⟩ := List.getElem?_of_mem hu
            have hlt : p < m' * ob.sz := by rw [← hl]; exact (List.getElem?_eq_some_iff.1 hp).1
            have hd := Nat.div_add_mod p ob.sz
            have hmod := Nat.mod_lt p hz
            have hlt2 : p / ob.sz < m' := Nat.div_lt_of_lt_mul (by rw [Nat.mul_comm]; exact hlt)
            exact hin.one (off + p / ob.sz) (p % ob.sz) u (by omega) hmod (hget _ _ u hlt2 hmod (by rw [show p / ob.sz * ob.sz + p % ob.sz = p by rw [Nat.mul_comm]; exact hd]; exact hp))
          · rw [Addr.add_mid, cell_of_row w b _ cur ob.T (0, 0) hin.blk]
            rw [List.getElem?_take] at hu
            split at hu
            · simpa using hu
            · cases hu
          · rw [hg] at ha
            have hj : j < ob.sz := by rw [← hin.flen (off + k) (by omega)]; exact (List.getElem?_eq_some_iff.1 ha).1
            have := hin.cell (off + k) j a v (by omega) ha (hget k j v hk hj hv)
            rw [hpu] at this; exact this
      · cases h
    · cases h
  · injection h with h; injection h with _ h; injection h with e1 e2; subst e1 e2
    cases hv
    exact ⟨none, 0, [], rfl, by simp, by simp, fun h => (h rfl).elim, fun k hk => by omega, fun k j a v hk => by omega⟩
  · cases h
def appF (n : Nat) (f g : Nat → List AV) : Nat → List AV := fun k => match Nat.blt k n with | true => f k | false => g (k - n)
theorem appF_lt {n k : Nat} {f g : Nat → List AV} (h : k < n) : appF n f g k = f k := by
  unfold appF
  have : Nat.blt k n = true := by rw [Nat.blt_eq]; exact h
  rw [this]
theorem appF_ge {n k : Nat} {f g : Nat → List AV} (h : n ≤ k) : appF n f g k = g (k - n) := by
  unfold appF
  have : Nat.blt k n = false := by
    cases hb : Nat.blt k n with
    | false => rfl
    | true => rw [Nat.blt_eq] at hb; omega
  rw [this]
/-- append(row, ..): the row may lie elsewhere behind it. -/
theorem append_row (hT : TabOk P tab) (hH : HRel μ X H w) {t e ty id n m : Nat} {i ei : TyI} (hi : tab t = some i) (hk : i.k = .slice e) (he : tab e = some ei) (hz : 0 < ei.sz) {ob : AObj} (hob : H[id]? = some ob) (hst : ob.st = 0) (hsz : ob.sz = ei.sz) (hTe : ob.T = e) (hpu0 : ob.pure = true) (hn : n ≤ ob.n)
    {s x : Value} (hs : RV (OO X H μ) w μ (.row id ei.sz 0 n none) s) {A : Option Addr} {c : Nat} {news : List Value} {g : Nat → List AV} (hx : x = .slice A m c) (hl : news.length = m * ei.sz) (h1 : ∀ u ∈ news, u.oneCell' = true)
    (hA : m ≠ 0 → ∃ a : Addr, A = some a ∧ ∀ j u, news[j]? = some u → w.cell? (a.add j) = some u) (hg : ∀ k, k < m → (g k).length = ei.sz) (hgr : ∀ (k j : Nat) a v, k < m → (g k)[j]? = some a → news[k * ei.sz + j]? = some v → RV (OO X H μ) w noMu a v)
    (h63 : n + m ≤ maxLen) (hby : (n + m) * ei.by_ ≤ 140737488355328) :
    MutOk P (do pure (.value (← Builtin.append_ #[t, t] ty #[s, x]))) X μ H w (.row id ei.sz 0 (n + m) none) ((H.map (forgetObj id)).set id { ob with n := n + m, f := appF n ob.f g, box := false }) (some id) := by
  have hidlt : id < H.length := (List.getElem?_eq_some_iff.1 hob).1
  have hu := (hT t i hi).und
  rw [hk] at hu; simp only [UndOk] at hu
  obtain ⟨f, hf, hfs, hfb, zv, hzv, hzc⟩ := (hT e ei he).info
  have hzs : zv.cells.size = ei.sz := by rw [← Array.length_toList, hzc, (hT e ei he).zlen]
  obtain ⟨xs, hown, hxs⟩ : ∃ xs, w.ownsRow 0 e ei.sz s n xs ∧ ((n = 0 ∧ xs = []) ∨ ∃ b mb cur, μ id = some (some (b, mb)) ∧ ObjIn (OO X H μ) w μ b mb ob cur ∧ xs = cur.toList.take (n * ei.sz)) := by
    cases hs with
    | rowNil h hc => exact ⟨[], World.ownsRow_nil w 0 e ei.sz, .inl ⟨rfl, rfl⟩⟩
    | rowE h hc ho => exact (ho rfl).elim
    | row h h2 h3 h4 h5 =>
      rename_i b mb c'
      obtain ⟨_, cur, hin⟩ := hH.at_ (by rw [nth_eq]; exact hob) (by omega) h
      have h5 := h5 rfl
      have hcs : n * ei.sz ≤ cur.size := by rw [hin.size, hsz]; exact Nat.mul_le_mul_right _ (by omega)
      refine ⟨cur.toList.take (n * ei.sz), ⟨by simp; omega, .inr ⟨b, c', cur, by simp, Nat.zero_le _, by rw [← hTe]; exact hin.blk, h2, by have := hin.le; omega, by rw [hin.size, hsz]; congr 1; omega, rfl⟩⟩, .inr ⟨b, mb, cur, h, hin, rfl⟩⟩
  have happ : ∃ v' w', (Builtin.append_ #[t, t] ty #[s, x]).run P w = .ok v' w' ∧ w'.ownsRow 0 e ei.sz v' (n + m) (xs ++ news) ∧ w.grownBy w' s.ownBlock ∧ (v'.ownBlock = s.ownBlock ∨ v'.ownBlock = some w.heap.size) := by
    subst hx
    by_cases hm : m = 0
    · subst hm
      have : news = [] := List.eq_nil_of_length_eq_zero (by simpa using hl)
      subst this
      refine ⟨s, w, run_append_nil' w 0 t ty e f ei.sz hu hf s n xs hown A c, by simpa using hown, World.grownBy.refl w _, .inl rfl⟩
    · obtain ⟨a, rfl, hcell⟩ := hA hm
      obtain ⟨v', w', g1, g2, g3, _, g5⟩ := run_append_own_at (P := P) w 0 t ty e f zv ei.sz ei.by_ hu hf hzv hfs hfb hzs hz s n xs hown a m c news hl hcell h1 h63 hby (Nat.zero_le _)
      exact ⟨v', w', g1, g2, g3, g5⟩
  obtain ⟨v', w', hrun, hown', hgr', hblk'⟩ := happ
  have hsb : ∀ b, s.ownBlock = some b → ∃ m', μ id = some (some (b, m')) := by
    intro b hb
    cases hs with
    | rowNil h hc => cases hb
    | rowE h hc ho => exact (ho rfl).elim
    | row h h2 h3 h4 h5 => simp [Value.ownBlock] at hb; subst hb; exact ⟨_, h⟩
  -- where it lies now
  obtain ⟨l', hl'⟩ : ∃ l' : Loc, (l' = none ∧ v' = .slice none 0 0 ∧ n + m = 0) ∨ ∃ b cap cur, l' = some (b, cap) ∧ v' = .slice (some ⟨b, 0, none⟩) (n + m) cap ∧ w'.heap[b]? = some (.cells cur e (0, 0)) ∧ n + m ≤ cap ∧ cap ≤ maxLen ∧ cur.size = cap * ei.sz ∧ cur.toList.take ((n + m) * ei.sz) = xs ++ news := by
    rcases hown'.2 with ⟨h1, h2⟩ | ⟨b, cap, cur, h1, _, h2, h3, h4, h5, h6⟩
    · exact ⟨none, .inl ⟨rfl, h1, h2⟩⟩
    · exact ⟨some (b, cap), .inr ⟨b, cap, cur, rfl, h1, h2, h3, h4, h5, h6⟩⟩
  let ob' : AObj := { ob with n := n + m, f := appF n ob.f g, box := false }
  let μ' : Mu := fun i => if i = id then some l' else μ i
  have hpu : Puts μ μ' X H ((H.map (forgetObj id)).set id ob') w w' id :=
    ⟨⟨ob, hob, hst⟩, by simp, fun i o' hi ho => by
      rw [List.getElem?_set_ne (Ne.symm hi)] at ho
      simp only [List.getElem?_map, Option.map_eq_some_iff] at ho
      obtain ⟨o1, h1, rfl⟩ := ho
      exact ⟨o1, h1, forgetObj_st _ _⟩, fun i hi => by simp only [μ']; rw [if_neg hi], fun l hl b mm he => by
      simp only [μ', if_true] at hl
      injection hl with hl; subst hl
      rcases hl' with ⟨h1, _⟩ | ⟨b', cap, cur, h1, h2, h3, _⟩
      · rw [h1] at he; cases he
      · rw [h1] at he; injection he with he; injection he with e1 e2; subst e1 e2
        refine ⟨(Array.getElem?_eq_some_iff.1 h3).1, ?_⟩
        have hvb : v'.ownBlock = some b' := by rw [h2]; rfl
        rcases hblk' with h4 | h4
        · exact .inl (hsb b' (by rw [← h4]; exact hvb))
        · rw [hvb] at h4; injection h4 with h4; exact .inr (by omega), hgr'.size, hgr'.os, hgr'.tape, hgr'.output, fun b hb hn => hgr'.block b hb fun he => by
          obtain ⟨m', hm'⟩ := hsb b he.symm
          exact hn m' hm'⟩
  have hrel := hpu.rel hH (hpu.others' hH fun i hi => by rw [List.getElem?_set_ne (Ne.symm hi), List.getElem?_map]) fun o' ho' _ => by
    rw [List.getElem?_set_self (by simpa using hidlt)] at ho'
    injection ho' with ho'; subst ho'
    refine ⟨by simp only [ob']; rw [hsz]; exact hz, ?_⟩
    rcases hl' with ⟨e1, h2, h3⟩ | ⟨b, cap, cur, e1, h2, h3, h4, h5, h6, h7⟩
    · exact .inl ⟨by simp [μ', e1], h3⟩
    · have hcur : ∀ (k j : Nat) v, k < n + m → j < ei.sz → cur[k * ei.sz + j]? = some v → (xs ++ news)[k * ei.sz + j]? = some v := by
        intro k j v hk hj hv
        rw [← h7, List.getElem?_take, if_pos]
        · simpa using hv
        · have : (k + 1) * ei.sz ≤ (n + m) * ei.sz := Nat.mul_le_mul_right _ (by omega)
          rw [Nat.add_mul] at this; omega
      have hxl : xs.length = n * ei.sz := hown.1
      have hold : ∀ (k j : Nat) v, k < n → j < ei.sz → (xs ++ news)[k * ei.sz + j]? = some v → ∃ b mb cur0, μ id = some (some (b, mb)) ∧ ObjIn (OO X H μ) w μ b mb ob cur0 ∧ cur0[k * ei.sz + j]? = some v := by
        intro k j v hk hj hv
        have hlt : k * ei.sz + j < n * ei.sz := by
          have : (k + 1) * ei.sz ≤ n * ei.sz := Nat.mul_le_mul_right _ hk
          rw [Nat.add_mul] at this; omega
        rw [List.getElem?_append_left (by omega)] at hv
        rcases hxs with ⟨h0, _⟩ | ⟨b, mb, cur0, g1, g2, g3⟩
        · omega
        · refine ⟨b, mb, cur0, g1, g2, ?_⟩
          rw [g3, List.getElem?_take, if_pos hlt] at hv
          simpa using hv
      have hnew : ∀ (k j : Nat) v, n ≤ k → j < ei.sz → (xs ++ news)[k * ei.sz + j]? = some v → news[(k - n) * ei.sz + j]? = some v := by
        intro k j v hk hj hv
        have hge : n * ei.sz ≤ k * ei.sz := Nat.mul_le_mul_right _ hk
        rw [List.getElem?_append_right (by omega), hxl] at hv
        rw [← hv, Nat.sub_mul]; congr 1; omega
      refine .inr ⟨b, cap, cur, by simp [μ', e1], ⟨by simp only [ob']; rw [hTe]; exact h3, by simp only [ob']; rw [hsz]; exact h6, h5, h4, ?_, ?_, ?_⟩⟩
      · simp only [ob']; rw [hsz]
        intro k j v hk hj hv
        have hv := hcur k j v hk hj hv
        by_cases hkn : k < n
        · obtain ⟨_, _, cur0, _, g2, g3⟩ := hold k j v hkn hj hv
          rw [← hsz] at g3 hj
          exact g2.one k j v (by omega) hj g3
        · exact h1 v (List.mem_of_getElem? (hnew k j v (by omega) hj hv))
      · simp only [ob']; rw [hsz]
        intro k hk
        by_cases hkn : k < n
        · rw [appF_lt hkn]
          rcases hxs with ⟨h0, _⟩ | ⟨b, mb, cur0, g1, g2, g3⟩
          · omega
          · rw [g2.flen k (by omega), hsz]
        · rw [appF_ge (by omega)]; exact hg _ (by omega)
      · intro k j a v hk ha hv
        have hk : k < n + m := hk
        have ha : (appF n ob.f g k)[j]? = some a := ha
        have hv : cur[k * ei.sz + j]? = some v := by rw [← hsz]; exact hv
        show RV _ _ (if ob.pure then noMu else μ') a v
        by_cases hkn : k < n
        · rw [appF_lt hkn] at ha
          have hj : j < ei.sz := by
            rcases hxs with ⟨h0, _⟩ | ⟨b, mb, cur0, g1, g2, g3⟩
            · omega
            · rw [← hsz, ← g2.flen k (by omega)]; exact (List.getElem?_eq_some_iff.1 ha).1
          obtain ⟨_, _, cur0, _, g2, g3⟩ := hold k j v hkn hj (hcur k j v hk hj hv)
          rw [← hsz] at g3
          have hr := g2.cell k j a v (by omega) ha g3
          rw [hpu0] at hr
          have hr' := RV.mono hpu.oo hpu.moved.blk hr noMu fun _ _ h => h
          split
          · exact hr'
          · exact hr'.up
        · rw [appF_ge (by omega)] at ha
          have hj : j < ei.sz := by rw [← hg (k - n) (by omega)]; exact (List.getElem?_eq_some_iff.1 ha).1
          have hr := hgr (k - n) j a v (by omega) ha (hnew k j v (by omega) hj (hcur k j v hk hj hv))
          have hr' := hr.mono hpu.oo hpu.moved.blk noMu fun _ _ h => h
          split
          · exact hr'
          · exact hr'.up
  refine ⟨.value v', v', w', μ', by simp [hrun], .inl rfl, hrel, hpu.ext, hpu.chg, ?_, fun k a v h => ⟨forget_rv (hpu.moved.upto k) 4 h, fun hk => h.mono hpu.oo hpu.moved.blk _ fun i l hi => ?_⟩⟩
  rotate_left
  · have hk := hk id rfl
    unfold upto at hi ⊢
    split at hi
    · rename_i hlt; rw [if_pos hlt]; exact hpu.moved.mu i l (by omega) hi
    · cases hi
  rcases hl' with ⟨h1, rfl, h3⟩ | ⟨b, cap, cur, h1, rfl, h3, h4, h5, h6, h7⟩
  · rw [h3]; exact .rowNil (by simp [μ', h1]) (.inl rfl)
  · have := RV.row (O := OO X ((H.map (forgetObj id)).set id ob') μ') (w := w') (μ := μ') (i := id) (sz := ei.sz) (off := 0) (n := n + m) (c := cap) (m := cap) (cap := none) (show μ' id = some (some (b, cap)) by simp only [μ', if_true, h1]) h4 (by omega) (fun q h => by cases h) (fun _ => by omega)
    simpa using this
end
end Go.Proofs.YthdckgcalooipaaDoor
namespace Go.Proofs.YthdckgcalooipaaDoor
section
open Go.RowKit
set_option linter.unusedVariables false
set_option linter.unusedSimpArgs false
set_option linter.unusedSectionVars false

abbrev fw (r : Option Nat) : Fence := { Fence.wide with round := r }
theorem fw_fn (r : Option Nat) (f : FuncId) : (fw r).fn f := trivial
theorem fw_room (r : Option Nat) (n : Nat) : (fw r).room n := fun _ h => by simp [fw, Fence.wide] at h

/-- What a walk knows beside its slots and objects: how many objects there were at its start; how many yields were done, whether the last one said no; what is yielded; whether there is no mark. -/
structure YB where
  n : Nat
  y : Nat := 0
  stop : Bool := false
  sp : Option (Nat × (Nat → List AV) × Nat) := none
  nm : Bool := true
structure St where
  s : List AV
  H : List AObj
  fg : List Nat := []
  nb : YB := ⟨0, 0, false, none, true⟩
def St.ev (σ : St) : Operand → AV
  | .tmp t => (nth σ.s t).getD .junk
  | .const v => .lit v
  | .func f => .fn (.func f) [] []
  | .global _ => .junk
def St.put (σ : St) (d : Option Tmp) (r : AV) : St := match d with | some d => ⟨setn σ.s d r, σ.H, σ.fg, σ.nb⟩ | none => σ
def fgs (l : List Nat) (a : AV) : AV := l.foldl (fun a id => forget id 4 a) a
/-- Of what is forgotten: what lies below k. -/
def fgk (k : Nat) (l : List Nat) : List Nat := l.filter fun i => Nat.blt i k
theorem fgk_fgk {k n : Nat} (h : k ≤ n) (l : List Nat) : fgk k (fgk n l) = fgk k l := by
  unfold fgk
  rw [List.filter_filter]
  congr 1
  funext i
  cases hb : Nat.blt i k with
  | false => rfl
  | true => rw [Nat.blt_eq] at hb; rw [Bool.true_and, Nat.blt_eq]; omega
theorem fgk_append (k : Nat) (l m : List Nat) : fgk k (l ++ m) = fgk k l ++ fgk k m := List.filter_append ..
def InMu (μ : Mu) (b : Nat) : Prop := ∃ i m, μ i = some (some (b, m))
/-- No block below is another one, but foreign ones. -/
structure Same (X : Nat → Prop) (w w' : World) : Prop where
  os : w'.os = w.os
  tape : w'.tape = w.tape
  output : w'.output = w.output
  size : w.heap.size ≤ w'.heap.size
  block : ∀ k, k < w.heap.size → ¬ X k → w'.heap[k]? = w.heap[k]?
/-- Where a call began: the foreign blocks X; what foreigners may rely on, behind so many yields (J). -/
structure Base (P : Program) where
  w : World
  X : Nat → Prop
  μ : Mu
  H : List AObj
  Y : Nat → Prop
  sp : Option (Nat × (Nat → List AV) × Nat)
  J : Nat → Bool → (Nat → Prop) → (Nat → Prop) → World → Prop
  kp : Option (Nat × Obj)
structure Base.Ok {P : Program} (B : Base P) : Prop where
  keep : ∀ y t X O w w' O', B.J y t X O w → Same O w w' → (∀ k, O' k → (O k ∨ w.heap.size ≤ k) ∧ ¬ X k ∧ k < w'.heap.size) → B.J y t X O' w'
  yl : ∀ l xs n, B.sp = some (l, xs, n) → ∀ y X O w (vs : List Value), B.J y false X O w → y < n → RVs (fun b => X b ∨ O b) w noMu (xs y) vs → ∀ r, YieldAt (fw r) 0 P l vs.toArray w fun e w' =>
    ∃ (t : Bool) (X' : Nat → Prop), e = .returned (.bool t) ∧ B.J (y + 1) (!t) X' O w' ∧ (∀ b, X b → X' b) ∧ (∀ b, X' b → (X b ∨ w.heap.size ≤ b) ∧ b < w'.heap.size) ∧ Same X w w'
/-- From w to w' no block was written but those of one's own, and foreign ones. -/
structure ChgY (Y : Nat → Prop) (μ : Mu) (w w' : World) : Prop where
  os : w'.os = w.os
  tape : w'.tape = w.tape
  output : w'.output = w.output
  size : w.heap.size ≤ w'.heap.size
  block : ∀ k, k < w.heap.size → (∀ i m, μ i ≠ some (some (k, m))) → ¬ Y k → w'.heap[k]? = w.heap[k]?
theorem ChgY.trans {Y : Nat → Prop} {μ μ' : Mu} {a b c : World} (h : ChgY Y μ a b) (he : Ext μ a μ') (h' : Chg μ' b c) : ChgY Y μ a c :=
  ⟨h'.os.trans h.os, h'.tape.trans h.tape, h'.output.trans h.output, Nat.le_trans h.size h'.size, fun k hk hn hy =>
    (h'.block k (Nat.lt_of_lt_of_le hk h.size) fun i m hi => by
      rcases he i k m hi with ⟨j, m', hj⟩ | hlt
      · exact hn j m' hj
      · omega).trans (h.block k hk hn hy)⟩
/-- The blocks that are not for foreigners: those of one's own, and the marks. -/
def Mine (μ : Mu) (ds : List Deferred) (b : Nat) : Prop := InMu μ b ∨ ({ target := .collected b, args := #[] } : Deferred) ∈ ds
/-- The rest of what is known: of yields, and of marks among the deferred calls. -/
structure Ex {P : Program} (B : Base P) (μ : Mu) (nb : YB) (ds : List Deferred) (w : World) : Prop where
  sp : nb.sp = B.sp
  ok : B.Ok
  jr : B.J nb.y nb.stop B.X (Mine μ ds) w
  marks : ∀ d ∈ ds, ∃ D, d = { target := .collected D, args := #[] } ∧ w.heap[D]? = some (.deferred (some [])) ∧ ¬ InMu μ D ∧ ¬ B.X D ∧ B.w.heap.size ≤ D
  apart : ds.Pairwise (· ≠ ·)
  nm : nb.nm = true → ds = []
  xy : B.sp ≠ none → ∀ k, B.X k → k < B.w.heap.size → B.Y k
  triv : B.sp = none → ∀ y t X O w, B.J y t X O w
  kp : ∀ D o, B.kp = some (D, o) → w.heap[D]? = some o ∧ ¬ InMu μ D ∧ ¬ B.X D ∧ D < B.w.heap.size
theorem Ex.step {P : Program} {B : Base P} {μ μ' : Mu} {nb : YB} {ds : List Deferred} {w w' : World} (h : Ex B μ nb ds w) (hc : Chg μ w w') (he : Ext μ w μ') (hx : ∀ i b m, μ' i = some (some (b, m)) → b < w'.heap.size ∧ ¬ B.X b) : Ex B μ' nb ds w' := by
  have hin : ∀ k, InMu μ' k → (InMu μ k ∨ w.heap.size ≤ k) ∧ ¬ B.X k ∧ k < w'.heap.size := fun k ⟨i, m, hi⟩ => ⟨(he i k m hi).imp (fun ⟨j, m', hj⟩ => ⟨j, m', hj⟩) id, (hx i k m hi).2, (hx i k m hi).1⟩
  have hmk : ∀ d ∈ ds, ∃ D, d = { target := .collected D, args := #[] } ∧ w'.heap[D]? = some (.deferred (some [])) ∧ ¬ InMu μ' D ∧ ¬ B.X D ∧ B.w.heap.size ≤ D := fun d hd => by
    obtain ⟨D, h1, h2, h3, h4, h5⟩ := h.marks d hd
    have hlt := (Array.getElem?_eq_some_iff.1 h2).1
    refine ⟨D, h1, (hc.block D hlt fun i m hi => h3 ⟨i, m, hi⟩).trans h2, fun hD => ?_, h4, h5⟩
    rcases (hin D hD).1 with h | h
    · exact h3 h
    · omega
  refine ⟨h.sp, h.ok, h.ok.keep _ _ _ _ w w' _ h.jr ⟨hc.os, hc.tape, hc.output, hc.size, fun k hk hn => hc.block k hk fun i m hi => hn (.inl ⟨i, m, hi⟩)⟩ fun k hk => ?_, hmk, h.apart, h.nm, h.xy, h.triv, fun D o ho => ?_⟩
  · rcases hk with hk | hk
    · exact ⟨(hin k hk).1.imp .inl id, (hin k hk).2⟩
    · obtain ⟨D, h1, h2, h3, h4, h5⟩ := hmk _ hk
      injection h1 with h1
      injection h1 with h1
      subst h1
      exact ⟨.inl (.inr hk), h4, (Array.getElem?_eq_some_iff.1 h2).1⟩
  · obtain ⟨h1, h2, h3, h4⟩ := h.kp D o ho
    have hlt := (Array.getElem?_eq_some_iff.1 h1).1
    exact ⟨(hc.block D hlt fun i m hi => h2 ⟨i, m, hi⟩).trans h1, fun hD => (hin D hD).1.elim h2 fun h => by omega, h3, h4⟩
theorem Ex.sub {P : Program} {B : Base P} {μ μ' : Mu} {nb : YB} {ds : List Deferred} {w : World} (h : Ex B μ nb ds w) (hs : ∀ b, InMu μ' b → InMu μ b) (hx : ∀ i b m, μ' i = some (some (b, m)) → b < w.heap.size ∧ ¬ B.X b) : Ex B μ' nb ds w :=
  h.step (Chg.refl _ _) (fun i b m hi => .inl (let ⟨j, m', hj⟩ := hs b ⟨i, m, hi⟩; ⟨j, m', hj⟩)) hx
structure SRel {P : Program} (B : Base P) (μ : Mu) (σ : St) (a : Act) (w : World) : Prop where
  size : σ.s.length = a.tmps.size
  slot : ∀ (t : Nat) x v, σ.s[t]? = some x → a.tmps[t]? = some v → RV (OO B.X σ.H μ) w μ x v
  H : HRel μ B.X σ.H w
  df : Ex B μ σ.nb a.defers w
  chg : ChgY B.Y B.μ B.w w
  ext : Ext B.μ B.w μ
  nb : σ.nb.n = B.H.length
  le : σ.nb.n ≤ σ.H.length
  pres : ∀ k x v, k ≤ σ.nb.n → RV (OO B.X B.H B.μ) B.w (upto k B.μ) x v → RV (OO B.X σ.H μ) w (upto k μ) (fgs (fgk k σ.fg) x) v
section
variable {P : Program} {tab : Tab} {B : Base P} {μ : Mu} {σ : St} {a : Act} {w : World} {r : Option Nat}
theorem SRel.ev (h : SRel B μ σ a w) (x : Operand) : RV (OO B.X σ.H μ) w μ (σ.ev x) (a.eval x) := by
  cases x with
  | tmp t =>
    simp only [St.ev, Act.eval, nth_eq]
    cases hs : σ.s[t]? with
    | none => exact .junk _
    | some x =>
      have hlt : t < a.tmps.size := by rw [← h.size]; exact (List.getElem?_eq_some_iff.1 hs).1
      have := h.slot t x a.tmps[t] hs (Array.getElem?_eq_getElem hlt)
      simpa [Array.getD_eq_getD_getElem?, hlt] using this
  | const v => exact .lit v
  | func f => exact .fn (vs := []) (us := []) rfl (fun j a v h => by simp at h) rfl (fun j a v h => by simp at h)
  | global g => exact .junk _
theorem SRel.put (h : SRel B μ σ a w) {x : AV} {v : Value} (hx : RV (OO B.X σ.H μ) w μ x v) (d : Option Tmp) : SRel B μ (σ.put d x) (a.put d v) w := by
  cases d with
  | none => exact h
  | some d =>
    refine ⟨by simp [St.put, Act.put, setn_eq, h.size], fun t y u hy hu => ?_, h.H, h.df, h.chg, h.ext, h.nb, h.le, h.pres⟩
    simp only [St.put, setn_eq, Act.put] at hy hu ⊢
    rw [Array.getElem?_setIfInBounds] at hu
    by_cases he : d = t
    · subst he
      rw [if_pos rfl] at hu
      split at hu
      · rename_i hlt
        injection hu with hu; subst hu
        rw [List.getElem?_set_self (by rw [h.size]; exact hlt)] at hy
        injection hy with hy; subst hy
        exact hx
      · cases hu
    · rw [if_neg he] at hu
      rw [List.getElem?_set_ne he] at hy
      exact h.slot t y u hy hu
/-- The state behind an operation, without its answer. -/
def St.behind (σ : St) (H' : List AObj) (fg : Option Nat) : St := match fg with | none => ⟨σ.s, H', σ.fg, σ.nb⟩ | some id => ⟨σ.s.map (forget id 4), H', (match Nat.blt id σ.nb.n with | true => σ.fg ++ [id] | false => σ.fg), σ.nb⟩
theorem SRel.step (h : SRel B μ σ a w) {H' : List AObj} {fg : Option Nat} {w' : World} {μ' : Mu} (hle : σ.H.length ≤ H'.length) (hH : HRel μ' B.X H' w') (he : Ext μ w μ') (hc : Chg μ w w') (hp : ∀ (k : Nat) x v, RV (OO B.X σ.H μ) w (upto k μ) x v → RV (OO B.X H' μ') w' (upto k μ') (fgA fg x) v ∧ ((∀ id, fg = some id → k ≤ id) → RV (OO B.X H' μ') w' (upto k μ') x v)) :
    SRel B μ' (σ.behind H' fg) a w' := by
  have hp0 : ∀ x v, RV (OO B.X σ.H μ) w μ x v → RV (OO B.X H' μ') w' μ' (fgA fg x) v := fun x v hx =>
    (hp σ.H.length x v (by rw [upto_all h.H.dom]; exact hx)).1.mono (fun _ _ h => h) (fun _ _ _ => rfl) _ (upto_le _ _)
  cases fg with
  | none => exact ⟨h.size, fun t x v hx hv => hp0 x v (h.slot t x v hx hv), hH, h.df.step hc he hH.lt, h.chg.trans h.ext hc, h.ext.trans h.chg.size he, h.nb, Nat.le_trans h.le hle, fun k x v hk hx => (hp k _ v (h.pres k x v hk hx)).1⟩
  | some id =>
    refine ⟨by simpa [St.behind] using h.size, fun t x v hx hv => ?_, hH, h.df.step hc he hH.lt, h.chg.trans h.ext hc, h.ext.trans h.chg.size he, h.nb, Nat.le_trans h.le hle, fun k x v hk hx => ?_⟩
    · simp only [St.behind, List.getElem?_map, Option.map_eq_some_iff] at hx
      obtain ⟨y, hy, rfl⟩ := hx
      exact hp0 y v (h.slot t y v hy hv)
    · have := hp k _ v (h.pres k x v hk hx)
      simp only [St.behind] at hk ⊢
      by_cases hik : id < k
      · have e1 : Nat.blt id σ.nb.n = true := by rw [Nat.blt_eq]; omega
        have e2 : Nat.blt id k = true := by rw [Nat.blt_eq]; exact hik
        rw [e1, fgk_append]
        simpa [St.behind, fgs, fgA, fgk, e2] using this.1
      · have h2 := this.2 fun id' he => by injection he with he; subst he; omega
        have e2 : Nat.blt id k = false := by cases hb : Nat.blt id k with | false => rfl | true => rw [Nat.blt_eq] at hb; omega
        split
        · rw [fgk_append]; simpa [fgk, e2] using h2
        · exact h2
end

section
variable {P : Program}
def Base.at_ (B : Base P) (X : Nat → Prop) : Base P := { B with X := X }
structure Grows (B : Base P) (X : Nat → Prop) : Prop where
  le : ∀ b, B.X b → X b
  new : ∀ b, X b → B.X b ∨ B.w.heap.size ≤ b
theorem Grows.refl (B : Base P) : Grows B B.X := ⟨fun _ h => h, fun _ h => .inl h⟩
theorem Grows.trans {B : Base P} {X X' : Nat → Prop} (h : Grows B X) (h' : Grows (B.at_ X) X') : Grows B X' := ⟨fun b hb => h'.le b (h.le b hb), fun b hb => (h'.new b hb).elim (fun hb => h.new b hb) .inr⟩
/-- The state, with as many foreign blocks as there are by now. -/
def SX (B : Base P) (σ : St) (a : Act) (w : World) : Prop := ∃ μ X, Grows B X ∧ SRel (B.at_ X) μ σ a w
theorem SRel.sx {B : Base P} {μ : Mu} {σ : St} {a : Act} {w : World} (h : SRel B μ σ a w) : SX B σ a w := ⟨μ, B.X, .refl B, h⟩
theorem SX.trans {B : Base P} {X : Nat → Prop} (hg : Grows B X) {σ : St} {a : Act} {w : World} (h : SX (B.at_ X) σ a w) : SX B σ a w := by
  obtain ⟨μ, X', h1, h2⟩ := h
  exact ⟨μ, X', hg.trans h1, h2⟩
def Post (B : Base P) (Q : Exit → St → Prop) (e : Exit) (a : Act) (w : World) : Prop := ∃ σ, Q e σ ∧ SX B σ a w
theorem Post.trans {B : Base P} {X : Nat → Prop} (hg : Grows B X) {Q : Exit → St → Prop} {e : Exit} {a : Act} {w : World} (h : Post (B.at_ X) Q e a w) : Post B Q e a w := by
  obtain ⟨σ, h1, h2⟩ := h
  exact ⟨σ, h1, h2.trans hg⟩
end
/-- Operations in the text's order, from a state on: whatever world stands for the state. -/
def AL (P : Program) (r : Option Nat) (l : List Oper) (Q : Exit → St → Prop) (R : List Oper) (σ : St) : Prop :=
  ∀ (B : Base P) (μ : Mu) (a : Act) (w : World), SRel B μ σ a w → wpListIn (fw r) 0 P l.toArray (Post B Q) R a w
def AW (P : Program) (r : Option Nat) (c : Code) (Q : Exit → St → Prop) (σ : St) : Prop :=
  ∀ (B : Base P) (μ : Mu) (a : Act) (w : World), SRel B μ σ a w → c.wpIn (fw r) 0 P (Post B Q) a w
/-- A call: of what reads so, with these objects; its answer, the objects behind it, what is forgotten. -/
def ACall (P : Program) (f : FuncId) (args : List AV) (H : List AObj) (K : AV → List AObj → List Nat → Prop) : Prop :=
  ∀ (w : World) (X : Nat → Prop) (μ : Mu) (vs : List Value), HRel μ X H w → RVs (OO X H μ) w μ args vs → Calls P f vs.toArray w fun e w' =>
    ∃ v r H' fg μ', e = .returned v ∧ K r H' fg ∧ HRel μ' X H' w' ∧ RV (OO X H' μ') w' μ' r v ∧ Chg μ w w' ∧ Ext μ w μ' ∧ H.length ≤ H'.length ∧ ∀ k x u, k ≤ H.length → RV (OO X H μ) w (upto k μ) x u → RV (OO X H' μ') w' (upto k μ') (fgs (fgk k fg) x) u
/-- Is the operation wanted? -/
def wantA (l : List Oper) (σ : St) (o : Oper) : Option Bool :=
  match o.guard with
  | none => some true
  | some (j, want) => match nth l j with
    | some oj => match oj.dst with
      | some d => match nth σ.s d with
        | some (.lit (.bool b)) => some (b == want)
        | some (.lit (.tuple _)) => some false
        | _ => none
      | none => some false
    | none => some false

section
variable {P : Program} {tab : Tab} {r : Option Nat} {l R : List Oper} {Q : Exit → St → Prop} {σ : St} {o : Oper}
theorem wantA_ok {b : Bool} (h : wantA l σ o = some b) {B : Base P} {μ : Mu} {a : Act} {w : World} (hr : SRel B μ σ a w) : Region.wanted o (yielded l.toArray a.tmps) = b := by
  unfold wantA at h
  unfold Region.wanted
  split at h
  · rename_i hg; rw [hg]; injection h
  · rename_i j want hg
    rw [hg]
    simp only
    unfold yielded
    simp only [nth_eq] at h
    simp only [List.getElem?_toArray]
    cases hj : l[j]? with
    | none => simp only [hj, Option.some.injEq] at h; rw [← h]; rfl
    | some oj =>
      rw [hj] at h
      simp only at h
      cases hd : oj.dst with
      | none => simp only [hd, Option.some.injEq] at h; rw [← h]; simp [hd]
      | some d =>
        rw [hd] at h
        simp only at h
        have key : ∀ x, σ.s[d]? = some x → ∃ v, a.tmps[d]? = some v ∧ RV (OO B.X σ.H μ) w μ x v := fun x hx => by
          have hlt : d < a.tmps.size := by rw [← hr.size]; exact (List.getElem?_eq_some_iff.1 hx).1
          exact ⟨_, Array.getElem?_eq_getElem hlt, hr.slot d x _ hx (Array.getElem?_eq_getElem hlt)⟩
        split at h
        · rename_i b' hs
          injection h with h; subst h
          obtain ⟨v, hv, hx⟩ := key _ hs
          rw [hx.lit_eq] at hv
          simp [hd, hv]
        · rename_i b' hs
          injection h with h; subst h
          obtain ⟨v, hv, hx⟩ := key _ hs
          rw [hx.lit_eq] at hv
          simp [hd, hv]
        · cases h
theorem al_nil (h : Q .normal σ) : AL P r l Q [] σ := fun B μ a w hr => ⟨σ, h, hr.sx⟩
/-- An operation that is no call of a function. -/
theorem al_mut (hw : wantA l σ o = some true) (hd : ∀ c, o.op ≠ .defer c) {x : AV} {H' : List AObj} {fg : Option Nat}
    (h : ∀ (B : Base P) (μ : Mu) (a : Act) (w : World), SRel B μ σ a w → MutOk P (execOp a.eval o) B.X μ σ.H w x H' fg ∧ σ.H.length ≤ H'.length) (next : AL P r l Q R ((σ.behind H' fg).put o.dst x)) : AL P r l Q (o :: R) σ := by
  intro B μ a w hr
  unfold wpListIn
  rw [if_pos (wantA_ok hw hr)]
  obtain ⟨⟨n, u, w', μ', h1, h2, h3, h4, h5, h6, h7⟩, hle⟩ := h B μ a w hr
  refine ⟨fun f _ => fw_fn r f, ?_⟩
  rw [Oper.semAt_eq _ _ _ hd, h1]
  have hs := (hr.step hle h3 h4 h5 h7).put (x := x) (v := u) (by cases fg <;> exact h6) o.dst
  rcases h2 with rfl | ⟨rfl, rfl⟩
  · exact next B μ' _ w' hs
  · exact next B μ' _ w' hs
theorem al_skip (hw : wantA l σ o = some false) (next : AL P r l Q R (σ.put o.dst (.lit undef))) : AL P r l Q (o :: R) σ := by
  intro B μ a w hr
  unfold wpListIn
  rw [if_neg (by rw [wantA_ok hw hr]; simp)]
  exact ⟨fun f _ => fw_fn r f, next B μ _ w (hr.put (.lit undef) o.dst)⟩
def notDefer : Op → Bool | .defer _ => false | _ => true
theorem notDefer_ok {o : Oper} (h : notDefer o.op = true) : ∀ c, o.op ≠ .defer c := fun c hc => by rw [hc] at h; cases h
theorem al_pure (hT : TabOk P tab) (hw : wantA l σ o = some true) {q : Prop} {x : AV} (h : aPure tab σ.H σ.ev o.op = some (q, x)) (hq : q) (next : AL P r l Q R (σ.put o.dst x)) : AL P r l Q (o :: R) σ := by
  have hd : ∀ c, o.op ≠ .defer c := fun c hc => by rw [hc] at h; simp [aPure] at h
  refine al_mut (H' := σ.H) (fg := none) hw hd (fun B μ a w hr => ?_) next
  obtain ⟨u, h1, h2⟩ := pure_sound hT h hq hr.H hr.ev
  exact ⟨⟨_, u, w, μ, h1, .inl rfl, hr.H, Ext.refl _ _, Chg.refl _ _, h2, fun _ _ _ h => ⟨h, fun _ => h⟩⟩, Nat.le_refl _⟩
theorem al_new (hT : TabOk P tab) (hw : wantA l σ o = some true) {q : Prop} {x : AV} {ob : AObj} (h : aNew tab σ.ev σ.H.length o.op = some (q, x, ob)) (hq : q) (next : AL P r l Q R (St.put ⟨σ.s, σ.H ++ [ob], σ.fg, σ.nb⟩ o.dst x)) : AL P r l Q (o :: R) σ := by
  have hd : ∀ c, o.op ≠ .defer c := fun c hc => by rw [hc] at h; simp [aNew] at h
  exact al_mut (H' := σ.H ++ [ob]) (fg := none) hw hd (fun B μ a w hr => ⟨(new_ok hT hr.ev h hq).mut hr.H, by simp⟩) next
theorem aStore_len {H H' : List AObj} {t : TypeId} {p x : AV} {q : Prop} (h : aStore tab H t p x = some (q, H')) : H'.length = H.length := by
  unfold aStore at h
  repeat (split at h)
  all_goals first
    | (cases h; done)
    | (injection h with h; injection h with e1 e2; subst e2; simp [setn_eq])
theorem al_store (hT : TabOk P tab) (hw : wantA l σ o = some true) {t : TypeId} {px xx : Operand} (ho : o.op = .store t px xx) {q : Prop} {H' : List AObj} (h : aStore tab σ.H t (σ.ev px) (σ.ev xx) = some (q, H')) (hq : q)
    (next : AL P r l Q R (St.put ⟨σ.s, H', σ.fg, σ.nb⟩ o.dst (.lit undef))) : AL P r l Q (o :: R) σ := by
  refine al_mut (H' := H') (fg := none) hw (fun c hc => by rw [ho] at hc; cases hc) (fun B μ a w hr => ?_) next
  have := store_sound hT hr.H h hq (hr.ev px) (hr.ev xx)
  refine ⟨?_, Nat.le_of_eq (aStore_len h).symm⟩
  unfold execOp
  rw [ho]
  exact this
/-- append(row, ..). -/
def aAppend (tab : Tab) (H : List AObj) (t : TypeId) (s x : AV) : Option (Prop × AV × List AObj × Option Nat) :=
  match tab t with
  | some i => match i.k with
    | .slice e => match tab e with
      | some ei => match srcOf H ei.sz x with
        | some (q, m, g) => match s with
          | .row id sz 0 n none => match nth H id with
            | some ob => match ob.st, Nat.beq sz ei.sz, Nat.beq ob.sz ei.sz, Nat.beq ob.T e, ob.pure, Nat.blt 0 ei.sz with
              | 0, true, true, true, true, true => some (q ∧ n ≤ ob.n ∧ (n + m) * ei.by_ ≤ 140737488355328 ∧ n + m ≤ 140737488355328, .row id sz 0 (n + m) none, setn (H.map (forgetObj id)) id { ob with n := n + m, f := appF n ob.f g, box := false }, some id)
              | _, _, _, _, _, _ => none
            | none => none
          | _ => none
        | none => none
      | none => none
    | _ => none
  | none => none
theorem al_append (hT : TabOk P tab) (hw : wantA l σ o = some true) {t : TypeId} {sx xx : Operand} (ho : o.op = .call { callee := .builtin .append, args := #[sx, xx], argTypes := #[t, t] }) {q : Prop} {y : AV} {H' : List AObj} {fg : Option Nat}
    (h : aAppend tab σ.H t (σ.ev sx) (σ.ev xx) = some (q, y, H', fg)) (hq : q) (next : AL P r l Q R ((σ.behind H' fg).put o.dst y)) : AL P r l Q (o :: R) σ := by
  refine al_mut hw (fun c hc => by rw [ho] at hc; cases hc) (fun B μ a w hr => ?_) next
  have hex : execOp a.eval o = (do pure (.value (← Builtin.append_ #[t, t] o.type #[a.eval sx, a.eval xx])) : Sem Next) := by
    unfold execOp
    rw [ho]
    simp [resolve, invoke, builtin]
  rw [hex]
  have hs := hr.ev sx
  have hx := hr.ev xx
  unfold aAppend at h
  split at h
  · rename_i i hi
    split at h
    · rename_i e hk
      split at h
      · rename_i ei he
        split at h
        · rename_i q' m g hsrc
          split at h
          · rename_i id sz n hse
            split at h
            · rename_i ob hob
              split at h
              · rename_i hst hb1 hb2 hb3 hpu hz
                injection h with h; injection h with e0 h; injection h with e1 h; injection h with e2 e3
                subst e0 e1 e2 e3
                obtain ⟨q1, q2, q3, q4⟩ := hq
                obtain rfl := beq_t hb1
                rw [Nat.blt_eq] at hz
                rw [hse] at hs
                obtain ⟨A, c, news, g1, g2, g3, g4, g5, g6⟩ := src_ok hr.H hsrc q1 hx
                rw [setn_eq]
                rw [nth_eq] at hob
                refine ⟨?_, by simp⟩
                exact append_row hT hr.H hi hk he hz hob hst (beq_t hb2) (beq_t hb3) hpu q2 hs g1 g2 g3 g4 g5 g6 (by unfold maxLen; omega) q3
              · cases h
            · cases h
          · cases h
        · cases h
      · cases h
    · cases h
  · cases h
theorem run_enter {f : FuncId} {fn : Func} {c : Code} (hf : P.funcs[f]? = some fn) (hname : (fn.name == "runtime.NumGoroutine") = false) (hb : fn.body = some c) (args : Array Value) (w : World) :
    (callFunc f args).run P w = .ok (.enter f args) w := by
  have h1 : fn.name ≠ "runtime.NumGoroutine" := by simpa using hname
  simp [callFunc, hf, h1, hb]
/-- A call of a Go function. -/
theorem al_call (hw : wantA l σ o = some true) {fo : Operand} {ao : List Operand} {ts : Array TypeId} (ho : o.op = .call { callee := .value fo, args := ao.toArray, argTypes := ts }) {f : FuncId} {fa ca : List AV} (hf : σ.ev fo = .fn (.func f) fa ca)
    {fn : Func} {c : Code} (hfn : P.funcs[f]? = some fn) (hnm : (fn.name == "runtime.NumGoroutine") = false) (hb : fn.body = some c) {K : AV → List AObj → List Nat → Prop} (h : ACall P f (fa ++ ao.map σ.ev ++ ca) σ.H K)
    (next : ∀ x H' fg, K x H' fg → AL P r l Q R (St.put ⟨σ.s.map (fgs (fgk σ.H.length fg)), H', σ.fg ++ fgk σ.nb.n fg, σ.nb⟩ o.dst x)) : AL P r l Q (o :: R) σ := by
  intro B μ a w hr
  unfold wpListIn
  rw [if_pos (wantA_ok hw hr)]
  refine ⟨fun f _ => fw_fn r f, ?_⟩
  rw [Oper.semAt_eq _ _ _ (fun c hc => by rw [ho] at hc; cases hc)]
  have hfv := hr.ev fo
  rw [hf] at hfv
  generalize hg : a.eval fo = fv at hfv
  cases hfv with
  | fn h1 h2 h3 h4 =>
    rename_i vs us
    have hargs : RVs (OO B.X σ.H μ) w μ (ao.map σ.ev) (ao.map a.eval) := ⟨by simp, fun j x v hx hv => by
      simp only [List.getElem?_map, Option.map_eq_some_iff] at hx hv
      obtain ⟨p, hp, rfl⟩ := hx
      obtain ⟨p', hp', rfl⟩ := hv
      rw [hp] at hp'; injection hp' with hp'; subst hp'
      exact hr.ev p⟩
    have hall := ((show RVs (OO B.X σ.H μ) w μ fa vs from ⟨h1, h2⟩).append hargs).append (show RVs (OO B.X σ.H μ) w μ ca us from ⟨h3, h4⟩)
    have hrun : (execOp a.eval o).run P w = .ok (.enter f (vs ++ ao.map a.eval ++ us).toArray) w := by
      unfold execOp
      rw [ho]
      simp only [resolve, hg, Deferred.ofValue, Sem.run_bind, Sem.run_pure, Result.andThen_ok, invoke, run_enter hfn hnm hb]
      simp
    rw [hrun]
    refine ⟨fun hd => by simp [fw, Fence.wide] at hd, ?_⟩
    have hcall := h w B.X μ _ hr.H hall
    have hcall : CallsIn (fw r) (0 - 1) P f (vs ++ ao.map a.eval ++ us).toArray w _ := callsIn_wide.2 hcall
    refine hcall.mono fun e w' he => ?_
    obtain ⟨v, x, H', fg, μ', rfl, hK, g1, g2, g3, g4, gl, g5⟩ := he
    refine next x H' fg hK B μ' _ w' ?_
    refine SRel.put (σ := ⟨σ.s.map (fgs (fgk σ.H.length fg)), H', σ.fg ++ fgk σ.nb.n fg, σ.nb⟩) ⟨by simpa using hr.size, fun t y u hy hu => ?_, g1, hr.df.step g3 g4 g1.lt, hr.chg.trans hr.ext g3, hr.ext.trans hr.chg.size g4, hr.nb, Nat.le_trans hr.le gl, fun k y u hk hy => ?_⟩ g2 o.dst
    · simp only [List.getElem?_map, Option.map_eq_some_iff] at hy
      obtain ⟨z, hz, rfl⟩ := hy
      exact (g5 σ.H.length z u (Nat.le_refl _) (by rw [upto_all hr.H.dom]; exact hr.slot t z u hz hu)).mono (fun _ _ h => h) (fun _ _ _ => rfl) _ (upto_le _ _)
    · have := g5 k _ u (Nat.le_trans hk hr.le) (hr.pres k y u hk hy)
      rw [fgk_append, fgk_fgk hk]
      simpa [fgs, List.foldl_append] using this
end
end
end Go.Proofs.YthdckgcalooipaaDoor
namespace Go.Proofs.YthdckgcalooipaaDoor
section
open Go.RowKit
set_option linter.unusedVariables false
set_option linter.unusedSimpArgs false
set_option linter.unusedSectionVars false
variable {P : Program} {tab : Tab} {r : Option Nat} {Q : Exit → St → Prop} {σ : St}

theorem AW.mono {c : Code} {Q' : Exit → St → Prop} (h : AW P r c Q σ) (hq : ∀ e σ, Q e σ → Q' e σ) : AW P r c Q' σ := fun B μ a w hr =>
  wpIn_mono (h B μ a w hr) fun e a w ⟨σ', h1, h2⟩ => ⟨σ', hq _ _ h1, h2⟩
theorem aw_skip (h : Q .normal σ) : AW P r .skip Q σ := fun B μ a w hr => wpIn_skip ⟨σ, h, hr.sx⟩
theorem aw_label {l : Nat} (h : Q .normal σ) : AW P r (.label l) Q σ := fun B μ a w hr => wpIn_label ⟨σ, h, hr.sx⟩
theorem aw_exit {id : Nat} (h : Q (.exit id) σ) : AW P r (.exit id) Q σ := fun B μ a w hr => wpIn_exit ⟨σ, h, hr.sx⟩
theorem aw_ret (h : Q .ret σ) : AW P r .ret Q σ := fun B μ a w hr => wpIn_ret ⟨σ, h, hr.sx⟩
def Then (next : St → Prop) (Q : Exit → St → Prop) : Exit → St → Prop
  | .normal, σ => next σ
  | e, σ => Q e σ
theorem aw_seq {x y : Code} (h : AW P r x (Then (AW P r y Q) Q) σ) : AW P r (.seq x y) Q σ := fun B μ a w hr =>
  wpIn_seq (wpIn_mono (h B μ a w hr) fun e a' w' ⟨σ', h1, h2⟩ => by
    cases e <;> simp only [Then] at h1 <;> simp only [Exit.then] <;> first | exact (let ⟨μ', X', hg, h3⟩ := h2; wpIn_mono (h1 (B.at_ X') μ' a' w' h3) fun _ _ _ h => h.trans hg) | exact ⟨σ', h1, h2⟩)
theorem aw_cond {c : Operand} {x y : Code} {b : Bool} (hc : σ.ev c = .lit (.bool b)) (ht : b = true → AW P r x Q σ) (hf : b = false → AW P r y Q σ) : AW P r (.cond c x y) Q σ := fun B μ a w hr => by
  have h := hr.ev c
  rw [hc] at h
  exact wpIn_cond_split h.lit_eq (fun hb => ht hb B μ a w hr) (fun hb => hf hb B μ a w hr)
def InBlock (id : Nat) (Q : Exit → St → Prop) : Exit → St → Prop
  | .exit id', σ => match Nat.beq id' id with | true => Q .normal σ | false => Q (.exit id') σ
  | e, σ => Q e σ
theorem aw_block {id : Nat} {c : Code} (h : AW P r c (InBlock id Q) σ) : AW P r (.block id c) Q σ := fun B μ a w hr =>
  wpIn_block (wpIn_mono (h B μ a w hr) fun e a' w' ⟨σ', h1, h2⟩ => by
    cases e <;> simp only [InBlock] at h1 <;> simp only [Exit.inBlock] <;> first | exact ⟨σ', h1, h2⟩ | skip
    rename_i id'
    split at h1
    · rename_i hb; rw [if_pos (beq_t hb)]; exact ⟨σ', h1, h2⟩
    · rename_i hb
      rw [if_neg (fun he => by subst he; simp at hb)]; exact ⟨σ', h1, h2⟩)
theorem aw_region {id : Nat} {l : List Oper} (h : AL P r l Q l σ) : AW P r (.region id l.toArray false) Q σ := fun B μ a w hr => wpIn_region_lit (h B μ a w hr)
/-! a state, told otherwise -/
/-- What reads as the one reads as the other. -/
def AV.Le (x y : AV) : Prop := ∀ (O : Nat → Prop) (w : World) (μ : Mu) (v : Value), RV O w μ x v → RV O w μ y v
theorem AV.Le.refl (x : AV) : AV.Le x x := fun _ _ _ _ h => h
theorem AV.Le.junk (x : AV) : AV.Le x .junk := fun _ _ _ v _ => .junk v
theorem AV.Le.lit {x y : Value} (h : x = y) : AV.Le (.lit x) (.lit y) := by rw [h]; exact .refl _
theorem AV.Le.int {k : IntKind} {x y : Int} (h : x = y) : AV.Le (.lit (.int k x)) (.lit (.int k y)) := by rw [h]; exact .refl _
theorem AV.Le.eq {x y : AV} (h : x = y) : AV.Le x y := by rw [h]; exact .refl _
theorem AV.Le.sl {sz n n' : Nat} {t t' : Bool} {f g : Nat → List AV} (hn : n = n') (ht : t' = true → t = true) (h : ∀ k, k < n → g k = f k) : AV.Le (.sl sz n t f) (.sl sz n' t' g) := by
  subst hn
  intro O w μ v hv
  cases hv with
  | sl a0 a1 a2 a3 a4 a5 a6 a7 a8 => exact .sl a0 a1 a2 (fun hh => a3 (ht hh)) a4 (fun k hk => by rw [h k hk]; exact a5 k hk) (fun k j a v hk ha hv => a6 k j a v hk (by rw [← h k hk]; exact ha) hv) a7 a8
theorem AV.Le.row {i sz off n n' : Nat} {cap : Option Nat} (hn : n = n') : AV.Le (.row i sz off n cap) (.row i sz off n' cap) := by rw [hn]; exact .refl _
theorem AV.Le.rowcap {i sz off n n' : Nat} {cap : Option Nat} (hn : n = n') : True := trivial
/-- Slot by slot. -/
inductive LeS : List AV → List AV → Prop
  | nil : LeS [] []
  | cons {x y : AV} {xs ys : List AV} (h : AV.Le x y) (hs : LeS xs ys) : LeS (x :: xs) (y :: ys)
theorem LeS.refl : ∀ l : List AV, LeS l l
  | [] => .nil
  | _ :: l => .cons (.refl _) (LeS.refl l)
theorem LeS.len {xs ys : List AV} (h : LeS xs ys) : xs.length = ys.length := by induction h with | nil => rfl | cons _ _ ih => simp [ih]
theorem LeS.at_ {xs ys : List AV} (h : LeS xs ys) : ∀ {t : Nat} {y : AV}, ys[t]? = some y → ∃ x, xs[t]? = some x ∧ AV.Le x y := by
  induction h with
  | nil => intro t y h; simp at h
  | cons h hs ih =>
    intro t y hy
    cases t with
    | zero => simp at hy; subst hy; exact ⟨_, rfl, h⟩
    | succ t => simp at hy; simpa using ih hy
/-- An object, told otherwise: its elements are as before, or nothing is known of it any more; it may be shared from now on. -/
structure ObjLe (o o' : AObj) : Prop where
  st : o.st ≤ o'.st
  T : o'.st < 2 → o.T = o'.T
  sz : o'.st < 2 → o.sz = o'.sz
  n : o'.st < 2 → o'.n ≤ o.n
  pure : o'.st < 2 → o'.pure = true → o.pure = true
  f : o'.st < 2 → ∀ k, k < o'.n → o'.f k = o.f k ∨ (o'.f k).length = (o.f k).length ∧ ∀ (j : Nat) x y, (o.f k)[j]? = some x → (o'.f k)[j]? = some y → AV.Le x y
theorem ObjLe.refl (o : AObj) : ObjLe o o := ⟨Nat.le_refl _, fun _ => rfl, fun _ => rfl, fun _ => Nat.le_refl _, fun _ h => h, fun _ _ _ => .inl rfl⟩
inductive LeH : List AObj → List AObj → Prop
  | nil : LeH [] []
  | cons {x y : AObj} {xs ys : List AObj} (h : ObjLe x y) (hs : LeH xs ys) : LeH (x :: xs) (y :: ys)
theorem LeH.refl : ∀ l : List AObj, LeH l l
  | [] => .nil
  | _ :: l => .cons (.refl _) (LeH.refl l)
theorem LeH.len {xs ys : List AObj} (h : LeH xs ys) : xs.length = ys.length := by induction h with | nil => rfl | cons _ _ ih => simp [ih]
theorem LeH.at_ {xs ys : List AObj} (h : LeH xs ys) : ∀ {t : Nat} {y : AObj}, ys[t]? = some y → ∃ x, xs[t]? = some x ∧ ObjLe x y := by
  induction h with
  | nil => intro t y h; simp at h
  | cons h hs ih =>
    intro t y hy
    cases t with
    | zero => simp at hy; subst hy; exact ⟨_, rfl, h⟩
    | succ t => simp at hy; simpa using ih hy
structure LeSt (σ σ' : St) : Prop where
  s : LeS σ.s σ'.s
  H : LeH σ.H σ'.H
  fg : ∀ id, id ∈ σ.fg → id ∈ σ'.fg
theorem OO_le {X : Nat → Prop} {H H' : List AObj} {μ : Mu} (h : LeH H H') : ∀ b, OO X H' μ b → OO X H μ b := by
  rintro b (hx | ⟨i, o', m, hi, hs, hm⟩)
  · exact .inl hx
  · obtain ⟨o, ho, hle⟩ := h.at_ hi
    exact .inr ⟨i, o, m, ho, by have := hle.st; omega, hm⟩
theorem SRel.told {B : Base P} {μ : Mu} {σ' : St} {a : Act} {w : World} (h : SRel B μ σ a w) (hs : LeS σ.s σ'.s) (hH : LeH σ.H σ'.H) (hf : σ'.fg = σ.fg ∧ σ'.nb = σ.nb) : SRel B μ σ' a w := by
  have hoo := OO_le (X := B.X) (μ := μ) hH
  have up : ∀ {μ₁ : Mu} {x : AV} {v : Value}, RV (OO B.X σ.H μ) w μ₁ x v → RV (OO B.X σ'.H μ) w μ₁ x v := fun h => h.mono (fun b _ hb => hoo b hb) (fun _ _ _ => rfl) _ fun _ _ h => h
  refine ⟨by rw [← hs.len]; exact h.size, fun t x v hx hv => ?_, ⟨fun i l hi => by rw [← hH.len]; exact h.H.dom i l hi, h.H.inj, h.H.lt, fun i o' hi hs' => ?_, h.H.xlt, h.H.gl⟩, by rw [hf.2]; exact h.df, h.chg, h.ext, by rw [hf.2]; exact h.nb, by rw [hf.2, ← hH.len]; exact h.le, fun k x v hk hx => by rw [hf.1]; rw [hf.2] at hk; exact up (h.pres k x v hk hx)⟩
  · obtain ⟨y, hy, hle⟩ := hs.at_ hx
    exact up (hle _ _ _ _ (h.slot t y v hy hv))
  · obtain ⟨o, ho, hle⟩ := hH.at_ hi
    obtain ⟨hz, hob⟩ := h.H.obj i o ho (by have := hle.st; omega)
    refine ⟨by rw [← hle.sz hs']; exact hz, ?_⟩
    rcases hob with ⟨h1, h2⟩ | ⟨b, m, cur, h1, h2⟩
    · exact .inl ⟨h1, by have := hle.n hs'; omega⟩
    · have hn := hle.n hs'
      have e1 := hle.sz hs'
      refine .inr ⟨b, m, cur, h1, ⟨by rw [← hle.T hs']; exact h2.blk, by rw [← e1]; exact h2.size, h2.le, by have := h2.nle; omega, fun k j v hk hj hv => h2.one k j v (by omega) (by omega) (by rw [e1]; exact hv), fun k hk => ?_, fun k j a v hk ha hv => ?_⟩⟩
      · have := h2.flen k (by omega)
        rcases hle.f hs' k hk with he | ⟨he, _⟩
        · rw [he, ← e1]; exact this
        · rw [he, ← e1]; exact this
      · rw [← e1] at hv
        have fin : ∀ y, (o.f k)[j]? = some y → AV.Le y a → RV (OO B.X σ'.H μ) w (if o'.pure then noMu else μ) a v := by
          intro y hy hya
          have hr := hya _ _ _ _ (h2.cell k j y v (by omega) hy hv)
          cases hp : o'.pure with
          | true => rw [hle.pure hs' hp] at hr; exact up hr
          | false =>
            cases hp2 : o.pure with
            | true => rw [hp2] at hr; exact (up hr).up
            | false => rw [hp2] at hr; exact up hr
        rcases hle.f hs' k hk with he | ⟨he, hle2⟩
        · exact fin a (by rw [← he]; exact ha) (.refl _)
        · have hlt : j < (o.f k).length := by rw [← he]; exact (List.getElem?_eq_some_iff.1 ha).1
          exact fin _ (List.getElem?_eq_getElem hlt) (hle2 j _ a (List.getElem?_eq_getElem hlt) ha)
theorem aw_le {c : Code} {σ' : St} (hs : LeS σ.s σ'.s) (hH : LeH σ.H σ'.H) (hf : σ'.fg = σ.fg ∧ σ'.nb = σ.nb) (h : AW P r c Q σ') : AW P r c Q σ := fun B μ a w hr => h B μ a w (hr.told hs hH hf)
theorem al_le {l R : List Oper} {σ' : St} (hs : LeS σ.s σ'.s) (hH : LeH σ.H σ'.H) (hf : σ'.fg = σ.fg ∧ σ'.nb = σ.nb) (h : AL P r l Q R σ') : AL P r l Q R σ := fun B μ a w hr => h B μ a w (hr.told hs hH hf)
/-- A state that may be told as one of these. -/
def Like (S : St → Prop) (σ : St) : Prop := ∃ σ', LeS σ.s σ'.s ∧ LeH σ.H σ'.H ∧ (σ'.fg = σ.fg ∧ σ'.nb = σ.nb) ∧ S σ'
/-- Where the walk stands may be told otherwise at its end. -/
theorem aw_like {c : Code} (h : AW P r c (fun e σ => Like (Q e) σ) σ) : AW P r c Q σ := fun B μ a w hr =>
  wpIn_mono (h B μ a w hr) fun e a' w' ⟨σ', ⟨σ'', h1, h2, h3, h4⟩, μ', X', hg, h5⟩ => ⟨σ'', h4, μ', X', hg, h5.told h1 h2 h3⟩
/-- A nil slice as an empty row of one's own. -/
def mkRow (T sz : Nat) : AObj := { T := T, sz := sz, n := 0, f := fun _ => [] }
theorem SRel.nilRow {B : Base P} {μ : Mu} {a : Act} {w : World} (h : SRel B μ σ a w) {t : Nat} (ht : nth σ.s t = some (.lit (.slice none 0 0))) (T sz : Nat) (hz : 0 < sz) :
    ∃ μ', SRel B μ' ⟨setn σ.s t (.row σ.H.length sz 0 0 none), σ.H ++ [mkRow T sz], σ.fg, σ.nb⟩ a w := by
  let μ' : Mu := fun i => if i = σ.H.length then some none else μ i
  have hmu : ∀ i l, μ i = some l → μ' i = some l := fun i l hi => by have := h.H.dom i l hi; simp only [μ']; rw [if_neg (by omega)]; exact hi
  have hoo : ∀ b, OO B.X (σ.H ++ [mkRow T sz]) μ' b → OO B.X σ.H μ b := by
    rintro b (hx | ⟨i, o', m', hi, hs, hm'⟩)
    · exact .inl hx
    · simp only [μ'] at hm'
      split at hm'
      · cases hm'
      · have := h.H.dom i _ hm'
        rw [List.getElem?_append_left this] at hi
        exact .inr ⟨i, o', m', hi, hs, hm'⟩
  have hinm : ∀ b, InMu μ' b → InMu μ b := fun b ⟨i, m, hi⟩ => by
    simp only [μ'] at hi
    split at hi
    · cases hi
    · exact ⟨i, m, hi⟩
  have hlt' : ∀ i b m, μ' i = some (some (b, m)) → b < w.heap.size ∧ ¬ B.X b := fun i b m hi => by
    obtain ⟨j, m', hj⟩ := hinm b ⟨i, m, hi⟩
    exact h.H.lt j b m' hj
  have up : ∀ {x : AV} {v : Value}, RV (OO B.X σ.H μ) w μ x v → RV (OO B.X (σ.H ++ [mkRow T sz]) μ') w μ' x v := fun h => h.mono (fun b _ hb => hoo b hb) (fun _ _ _ => rfl) _ hmu
  refine ⟨μ', by simpa [setn_eq] using h.size, fun k x v hx hv => ?_, ⟨fun i l hi => ?_, fun i j b m m2 hi hj => ?_, fun i b m hi => ?_, fun i o' hi hs => ?_, h.H.xlt, h.H.gl.sub hinm⟩, h.df.sub hinm hlt', h.chg, fun i b m hi => ?_, h.nb, by simp; have := h.le; omega, fun k x v hk hx => (h.pres k x v hk hx).mono (fun b _ hb => hoo b hb) (fun _ _ _ => rfl) _ (upto_mono hmu)⟩
  · simp only [setn_eq] at hx
    by_cases he : t = k
    · subst he
      have hlt : t < σ.s.length := by rw [h.size]; exact (Array.getElem?_eq_some_iff.1 hv).1
      rw [List.getElem?_set_self hlt] at hx
      injection hx with hx; subst hx
      rw [nth_eq] at ht
      rw [(h.slot t _ v ht hv).lit_eq]
      exact .rowNil (by simp [μ']) (.inl rfl)
    · rw [List.getElem?_set_ne he] at hx
      exact up (h.slot k x v hx hv)
  · simp only [μ'] at hi
    split at hi
    · subst i; simp
    · have := h.H.dom i l hi; simp; omega
  · simp only [μ'] at hi hj
    split at hi <;> split at hj <;> first | (cases hi; done) | (cases hj; done) | exact h.H.inj i j b m m2 hi hj
  · simp only [μ'] at hi
    split at hi
    · cases hi
    · exact h.H.lt i b m hi
  · by_cases hlt : i < σ.H.length
    · rw [List.getElem?_append_left hlt] at hi
      exact (h.H.obj i o' hi hs).mono (fun b _ hb => hoo b hb) (fun _ _ _ => rfl) hmu fun _ _ _ => rfl
    · have he : i = σ.H.length := by
        have := (List.getElem?_eq_some_iff.1 hi).1
        simp at this; omega
      subst he
      simp at hi
      subst hi
      exact ⟨hz, .inl ⟨by simp [μ'], rfl⟩⟩
  · simp only [μ'] at hi
    split at hi
    · cases hi
    · exact h.ext i b m hi
/-- A nil slice in a variable, as an empty row of one's own. -/
def cellNil (ob : AObj) (id sz : Nat) : AObj := { ob with f := fun _ => [.row id sz 0 0 none], pure := false }
theorem SRel.nilCell {B : Base P} {μ : Mu} {a : Act} {w : World} (h : SRel B μ σ a w) {i0 : Nat} {ob : AObj} (ho : σ.H[i0]? = some ob) (hn : ob.n = 1) (hf : ob.f 0 = [.lit (.slice none 0 0)]) (T sz : Nat) (hz : 0 < sz) :
    ∃ μ', SRel B μ' ⟨σ.s, σ.H.set i0 (cellNil ob σ.H.length sz) ++ [mkRow T sz], σ.fg, σ.nb⟩ a w := by
  let μ' : Mu := fun i => if i = σ.H.length then some none else μ i
  have hi0 : i0 < σ.H.length := (List.getElem?_eq_some_iff.1 ho).1
  have hmu : ∀ i l, μ i = some l → μ' i = some l := fun i l hi => by have := h.H.dom i l hi; simp only [μ']; rw [if_neg (by omega)]; exact hi
  have hobj : ∀ i o', (σ.H.set i0 (cellNil ob σ.H.length sz) ++ [mkRow T sz])[i]? = some o' → i < σ.H.length → (i = i0 ∧ o' = cellNil ob σ.H.length sz) ∨ (i ≠ i0 ∧ σ.H[i]? = some o') := fun i o' hi hlt => by
    rw [List.getElem?_append_left (by simpa using hlt)] at hi
    by_cases he : i0 = i
    · subst he
      rw [List.getElem?_set_self hlt] at hi
      injection hi with hi
      exact .inl ⟨rfl, hi.symm⟩
    · rw [List.getElem?_set_ne he] at hi
      exact .inr ⟨fun h => he h.symm, hi⟩
  have hoo : ∀ b, OO B.X (σ.H.set i0 (cellNil ob σ.H.length sz) ++ [mkRow T sz]) μ' b → OO B.X σ.H μ b := by
    rintro b (hx | ⟨i, o', m', hi, hs, hm'⟩)
    · exact .inl hx
    · simp only [μ'] at hm'
      split at hm'
      · cases hm'
      · have := h.H.dom i _ hm'
        rcases hobj i o' hi this with ⟨rfl, rfl⟩ | ⟨_, h1⟩
        · exact .inr ⟨i, ob, m', ho, hs, hm'⟩
        · exact .inr ⟨i, o', m', h1, hs, hm'⟩
  have hinm : ∀ b, InMu μ' b → InMu μ b := fun b ⟨i, m, hi⟩ => by
    simp only [μ'] at hi
    split at hi
    · cases hi
    · exact ⟨i, m, hi⟩
  have hlt' : ∀ i b m, μ' i = some (some (b, m)) → b < w.heap.size ∧ ¬ B.X b := fun i b m hi => by
    obtain ⟨j, m', hj⟩ := hinm b ⟨i, m, hi⟩
    exact h.H.lt j b m' hj
  have up : ∀ {x : AV} {v : Value}, RV (OO B.X σ.H μ) w μ x v → RV (OO B.X (σ.H.set i0 (cellNil ob σ.H.length sz) ++ [mkRow T sz]) μ') w μ' x v := fun h => h.mono (fun b _ hb => hoo b hb) (fun _ _ _ => rfl) _ hmu
  refine ⟨μ', h.size, fun k x v hx hv => up (h.slot k x v hx hv), ⟨fun i l hi => ?_, fun i j b m m2 hi hj => ?_, hlt', fun i o' hi hs => ?_, h.H.xlt, h.H.gl.sub hinm⟩, h.df.sub hinm hlt', h.chg, fun i b m hi => ?_, h.nb, by simp; have := h.le; omega, fun k x v hk hx => (h.pres k x v hk hx).mono (fun b _ hb => hoo b hb) (fun _ _ _ => rfl) _ (upto_mono hmu)⟩
  · simp only [μ'] at hi
    split at hi
    · subst i; simp
    · have := h.H.dom i l hi; simp; omega
  · simp only [μ'] at hi hj
    split at hi <;> split at hj <;> first | (cases hi; done) | (cases hj; done) | exact h.H.inj i j b m m2 hi hj
  · by_cases hlt : i < σ.H.length
    · rcases hobj i o' hi hlt with ⟨rfl, rfl⟩ | ⟨_, h1⟩
      · obtain ⟨hz0, hat⟩ := (h.H.obj i ob ho hs).mono (O' := OO B.X (σ.H.set i (cellNil ob σ.H.length sz) ++ [mkRow T sz]) μ') (w' := w) (fun b _ hb => hoo b hb) (fun _ _ _ => rfl) hmu fun _ _ _ => rfl
        refine ⟨hz0, hat.imp (fun h => h) fun ⟨b, m, cur, h1, h2⟩ => ⟨b, m, cur, h1, ⟨h2.blk, h2.size, h2.le, h2.nle, h2.one, fun k hk => ?_, fun k j a v hk ha hv => ?_⟩⟩⟩
        · have hk : k < ob.n := hk
          have e := h2.flen 0 (by omega)
          rw [hf] at e
          exact e
        · have hk : k < ob.n := hk
          obtain rfl : k = 0 := by omega
          have ha : ([AV.row σ.H.length sz 0 0 none])[j]? = some a := ha
          have hj : j = 0 := by have := (List.getElem?_eq_some_iff.1 ha).1; simp at this; exact this
          subst hj
          simp at ha
          subst ha
          have := h2.cell 0 0 (.lit (.slice none 0 0)) v (by omega) (by rw [hf]; rfl) hv
          rw [this.lit_eq]
          exact .rowNil (by simp [μ', cellNil]) (.inl rfl)
      · exact (h.H.obj i o' h1 hs).mono (fun b _ hb => hoo b hb) (fun _ _ _ => rfl) hmu fun _ _ _ => rfl
    · have he : i = σ.H.length := by
        have := (List.getElem?_eq_some_iff.1 hi).1
        simp at this; omega
      subst he
      simp at hi
      subst hi
      exact ⟨hz, .inl ⟨by simp [μ'], rfl⟩⟩
  · simp only [μ'] at hi
    split at hi
    · cases hi
    · exact h.ext i b m hi
theorem aw_nilRow {c : Code} {t : Nat} (T sz : Nat) (ht : nth σ.s t = some (.lit (.slice none 0 0))) (hz : Nat.blt 0 sz = true) (h : AW P r c Q ⟨setn σ.s t (.row σ.H.length sz 0 0 none), σ.H ++ [mkRow T sz], σ.fg, σ.nb⟩) : AW P r c Q σ := fun B μ a w hr => by
  rw [Nat.blt_eq] at hz
  obtain ⟨μ', hr'⟩ := hr.nilRow ht T sz hz
  exact h B μ' a w hr'
theorem al_nilRow {l R : List Oper} {t : Nat} (T sz : Nat) (ht : nth σ.s t = some (.lit (.slice none 0 0))) (hz : Nat.blt 0 sz = true) (h : AL P r l Q R ⟨setn σ.s t (.row σ.H.length sz 0 0 none), σ.H ++ [mkRow T sz], σ.fg, σ.nb⟩) : AL P r l Q R σ := fun B μ a w hr => by
  rw [Nat.blt_eq] at hz
  obtain ⟨μ', hr'⟩ := hr.nilRow ht T sz hz
  exact h B μ' a w hr'
/-- What stands for σ stands for σ' too. -/
def Tells (σ σ' : St) : Prop := ∀ (P : Program) (B : Base P) (μ : Mu) (a : Act) (w : World), SRel B μ σ a w → ∃ μ', SRel B μ' σ' a w
theorem Tells.refl (σ : St) : Tells σ σ := fun P B μ a w h => ⟨μ, h⟩
theorem Tells.trans {σ σ' σ'' : St} (h : Tells σ σ') (h' : Tells σ' σ'') : Tells σ σ'' := fun P B μ a w hr => by
  obtain ⟨μ1, h1⟩ := h P B μ a w hr
  exact h' P B μ1 a w h1
theorem Tells.le {s s' : List AV} {H H' : List AObj} {fg : List Nat} {nb : YB} (hs : LeS s s') (hH : LeH H H') : Tells ⟨s, H, fg, nb⟩ ⟨s', H', fg, nb⟩ := fun P B μ a w hr => ⟨μ, hr.told hs hH ⟨rfl, rfl⟩⟩
theorem Tells.eq {σ σ' : St} (h : σ = σ') : Tells σ σ' := by rw [h]; exact .refl _
theorem Tells.nilRow {t : Nat} (T sz : Nat) (ht : nth σ.s t = some (.lit (.slice none 0 0))) (hz : Nat.blt 0 sz = true) : Tells σ ⟨setn σ.s t (.row σ.H.length sz 0 0 none), σ.H ++ [mkRow T sz], σ.fg, σ.nb⟩ := fun P B μ a w hr => by
  rw [Nat.blt_eq] at hz
  exact hr.nilRow ht T sz hz
theorem Tells.nilCell (i T sz : Nat) {ob : AObj} (ho : nth σ.H i = some ob) (hn : ob.n = 1) (hf : ob.f 0 = [.lit (.slice none 0 0)]) (hz : Nat.blt 0 sz = true) : Tells σ ⟨σ.s, setn σ.H i (cellNil ob σ.H.length sz) ++ [mkRow T sz], σ.fg, σ.nb⟩ := fun P B μ a w hr => by
  rw [Nat.blt_eq] at hz
  rw [setn_eq]
  rw [nth_eq] at ho
  exact hr.nilCell ho hn hf T sz hz
theorem aw_tell {c : Code} {σ' : St} (ht : Tells σ σ') (h : AW P r c Q σ') : AW P r c Q σ := fun B μ a w hr => by
  obtain ⟨μ', hr'⟩ := ht P B μ a w hr
  exact h B μ' a w hr'
theorem al_tell {l R : List Oper} {σ' : St} (ht : Tells σ σ') (h : AL P r l Q R σ') : AL P r l Q R σ := fun B μ a w hr => by
  obtain ⟨μ', hr'⟩ := ht P B μ a w hr
  exact h B μ' a w hr'
theorem aw_then {c : Code} {Q' : Exit → St → Prop} (h : AW P r c Q' σ) (hq : ∀ e σ, Q' e σ → ∃ σ', Tells σ σ' ∧ Q e σ') : AW P r c Q σ := fun B μ a w hr =>
  wpIn_mono (h B μ a w hr) fun e a w ⟨σ1, h1, μ1, X1, hg, h2⟩ => by
    obtain ⟨σ', h3, h4⟩ := hq e σ1 h1
    obtain ⟨μ', h5⟩ := h3 P (B.at_ X1) μ1 a w h2
    exact ⟨σ', h4, μ', X1, hg, h5⟩
/-- A loop: the states at a round's head, by a number of any kind, which goes down. -/
theorem aw_loop {c : Code} {ι : Type} (st : ι → St) (m : ι → Nat) (i0 : ι) (h0 : Tells σ (st i0))
    (round : ∀ i, AW P r c (Then (fun σ' => ∃ j, m j < m i ∧ Tells σ' (st j)) Q) (st i)) : AW P r (.loop c) Q σ := by
  intro B μ a w hr
  have key : ∀ a' w', ∃ n, (∃ i, SX B (st i) a' w') → (∃ i, SX B (st i) a' w' ∧ m i = n) ∧ ∀ n', (∃ i, SX B (st i) a' w' ∧ m i = n') → n ≤ n' := by
    intro a' w'
    by_cases h : ∃ i, SX B (st i) a' w'
    · obtain ⟨i, hi⟩ := h
      have hex : ∃ n, ∃ i, SX B (st i) a' w' ∧ m i = n := ⟨m i, i, hi, rfl⟩
      have : ∀ n, (∃ i, SX B (st i) a' w' ∧ m i = n) → ∃ n0, (∃ i, SX B (st i) a' w' ∧ m i = n0) ∧ ∀ n', (∃ i, SX B (st i) a' w' ∧ m i = n') → n0 ≤ n' := by
        intro n
        induction n using Nat.strongRecOn with
        | _ n ih =>
          intro hn
          by_cases hlt : ∃ n', n' < n ∧ ∃ i, SX B (st i) a' w' ∧ m i = n'
          · obtain ⟨n', h1, h2⟩ := hlt
            exact ih n' h1 h2
          · refine ⟨n, hn, fun n' hn' => ?_⟩
            rcases Nat.lt_or_ge n' n with h1 | h1
            · exact (hlt ⟨n', h1, hn'⟩).elim
            · exact h1
      obtain ⟨n0, h1, h2⟩ := this _ hex.choose_spec
      exact ⟨n0, fun _ => ⟨h1, h2⟩⟩
    · exact ⟨0, fun h' => (h h').elim⟩
  have h0' : SX B (st i0) a w := by
    obtain ⟨μ1, h1⟩ := h0 P B μ a w hr
    exact h1.sx
  refine wpIn_loop (fun a' w' => ∃ i, SX B (st i) a' w') (fun a' w' => (key a' w').choose) ⟨i0, h0'⟩ fun a' w' hI => ?_
  obtain ⟨⟨i, ⟨μ1, X1, hg, hi⟩, hm⟩, _⟩ := (key a' w').choose_spec hI
  refine wpIn_mono (round i (B.at_ X1) μ1 a' w' hi) fun e a2 w2 ⟨σ', h1, h2⟩ => ?_
  cases e <;> simp only [Then] at h1 <;> simp only [Exit.then] <;> first | exact ⟨σ', h1, h2.trans hg⟩ | skip
  obtain ⟨j, hj, hle⟩ := h1
  obtain ⟨μ2, X2, hg2, h2⟩ := h2
  obtain ⟨μ3, hrj⟩ := hle P _ μ2 a2 w2 h2
  have hsx : SX B (st j) a2 w2 := ⟨μ3, X2, hg.trans hg2, hrj⟩
  refine ⟨⟨j, hsx⟩, ?_⟩
  have := ((key a2 w2).choose_spec ⟨j, hsx⟩).2 (m j) ⟨j, hsx, rfl⟩
  omega
end
end Go.Proofs.YthdckgcalooipaaDoor
namespace Go.Proofs.YthdckgcalooipaaDoor
section
open Go.RowKit
set_option linter.unusedVariables false
set_option linter.unusedSimpArgs false
set_option linter.unusedSectionVars false
variable {P : Program} {tab : Tab} {X : Nat → Prop} {H H' : List AObj} {μ μ' : Mu} {w w' : World} {O O' : Nat → Prop}

/-- Objects by other numbers. -/
def ren (f : Nat → Option Nat) : Nat → AV → AV
  | 0, _ => .junk
  | n + 1, a => match a with
    | .row i sz off k c => match f i with | some j => .row j sz off k c | none => .junk
    | .ptr i sz k o => match f i with | some j => .ptr j sz k o | none => .junk
    | .agg cs => .agg (cs.map (ren f n))
    | .tup cs => .tup (cs.map (ren f n))
    | .fn g a b => .fn g (a.map (ren f n)) (b.map (ren f n))
    | .iface t a => .iface t (ren f n a)
    | a => a
theorem ren_rv {f : Nat → Option Nat} (hf : ∀ i j l, f i = some j → μ i = some l → μ' j = some l) (hO : ∀ b, b < w.heap.size → O' b → O b) (hw : ∀ b, b < w.heap.size → ¬ O b → w'.heap[b]? = w.heap[b]?) : ∀ (n : Nat) {a : AV} {v : Value}, RV O w μ a v → RV O' w' μ' (ren f n a) v
  | 0, a, v, _ => .junk v
  | n + 1, a, v, hv => by
    have fl : ∀ {cs : List AV} {vs : List Value}, (∀ (j : Nat) a v, cs[j]? = some a → vs[j]? = some v → RV O w μ a v) → ∀ (j : Nat) a v, (cs.map (ren f n))[j]? = some a → vs[j]? = some v → RV O' w' μ' a v := by
      intro cs vs h j a v ha hv
      simp only [List.getElem?_map, Option.map_eq_some_iff] at ha
      obtain ⟨a, ha, rfl⟩ := ha
      exact ren_rv hf hO hw n (h j a v ha hv)
    cases hv with
    | junk => exact .junk _
    | lit => exact .lit _
    | agg h1 h2 => exact .agg (by simpa using h1) (fl h2)
    | tup h1 h2 => exact .tup (by simpa using h1) (fl h2)
    | arr a1 a2 a3 a4 => exact .arr a1 a2 a3 fun k j a v hk ha hv => (a4 k j a v hk ha hv).mono hO hw _ fun _ _ h => h
    | sl a0 a1 a2 a3 a4 a5 a6 a7 a8 => exact (RV.sl (μ := noMu) a0 a1 a2 a3 a4 a5 a6 a7 a8).mono hO hw _ fun _ _ h => by cases h
    | ip a1 a2 a3 a4 a5 => exact (RV.ip (μ := noMu) a1 a2 a3 a4 a5).mono hO hw _ fun _ _ h => by cases h
    | rowNil h hc =>
      simp only [ren]
      split
      · exact .rowNil (hf _ _ _ ‹_› h) hc
      · exact .junk _
    | row h h1 h2 h3 h4 =>
      simp only [ren]
      split
      · exact .row (hf _ _ _ ‹_› h) h1 h2 h3 h4
      · exact .junk _
    | rowE h h1 h2 =>
      simp only [ren]
      split
      · exact .rowE (hf _ _ _ ‹_› h) h1 h2
      · exact .junk _
    | ptr h =>
      simp only [ren]
      split
      · exact .ptr (hf _ _ _ ‹_› h)
      · exact .junk _
    | fn h1 h2 h3 h4 => exact .fn (by simpa using h1) (fl h2) (by simpa using h3) (fl h4)
    | iface h1 => exact .iface (ren_rv hf hO hw n h1)
def renObj (f : Nat → Option Nat) (o : AObj) : AObj := match o.pure with | true => o | false => { o with f := fun k => (o.f k).map (ren f 4) }
theorem renObj_same (f : Nat → Option Nat) (o : AObj) : (renObj f o).st = o.st ∧ (renObj f o).sz = o.sz ∧ (renObj f o).n = o.n ∧ (renObj f o).T = o.T ∧ (renObj f o).pure = o.pure := by unfold renObj; split <;> simp_all
theorem renObj_at {f : Nat → Option Nat} (hf : ∀ i j l, f i = some j → μ i = some l → μ' j = some l) (hO : ∀ b, b < w.heap.size → O' b → O b) (hw : ∀ b, b < w.heap.size → ¬ O b → w'.heap[b]? = w.heap[b]?) {i j : Nat} {o : AObj} (h : ObjAt O w μ i o) (hij : ∀ l, μ i = some l → μ' j = some l)
    (hb : ∀ b m, μ i = some (some (b, m)) → w'.heap[b]? = w.heap[b]?) : ObjAt O' w' μ' j (renObj f o) := by
  obtain ⟨e0, e1, e2, e3, e4⟩ := renObj_same f o
  refine ⟨by rw [e1]; exact h.1, ?_⟩
  rcases h.2 with ⟨h1, h2⟩ | ⟨b, m, cur, h1, h2⟩
  · exact .inl ⟨hij _ h1, by rw [e2]; exact h2⟩
  · refine .inr ⟨b, m, cur, hij _ h1, ⟨by rw [e3]; exact (hb b m h1).trans h2.blk, by rw [e1]; exact h2.size, h2.le, by rw [e2]; exact h2.nle, by rw [e1, e2]; exact h2.one, ?_, ?_⟩⟩
    · rw [e1, e2]; intro k hk
      unfold renObj
      split <;> simp [h2.flen k hk]
    · rw [e1, e2, e4]
      intro k j a v hk ha hv
      cases hp : o.pure with
      | true =>
        have he : renObj f o = o := by unfold renObj; rw [hp]
        rw [he] at ha
        have := h2.cell k j a v hk ha hv
        rw [hp] at this
        exact this.mono hO hw _ fun _ _ h => h
      | false =>
        unfold renObj at ha
        rw [hp] at ha
        simp only [List.getElem?_map, Option.map_eq_some_iff] at ha
        obtain ⟨c, hc, rfl⟩ := ha
        have := h2.cell k j c v hk hc hv
        rw [hp] at this
        exact ren_rv hf hO hw 4 this

/-! only some objects, by other numbers -/
def idx : List Nat → Nat → Option Nat
  | [], _ => none
  | k :: ks, i => match Nat.beq k i with | true => some 0 | false => (idx ks i).map (· + 1)
theorem idx_ok : ∀ {ks : List Nat} {i j : Nat}, idx ks i = some j → ks[j]? = some i
  | [], i, j, h => by cases h
  | k :: ks, i, j, h => by
    simp only [idx] at h
    split at h
    · rename_i hb; injection h with h; subst h; simp [beq_t hb]
    · simp only [Option.map_eq_some_iff] at h
      obtain ⟨j', hj', rfl⟩ := h
      simpa using idx_ok hj'
def selH (f : Nat → Option Nat) (H : List AObj) : List Nat → Option (List AObj)
  | [] => some []
  | k :: ks => match nth H k, selH f H ks with
    | some o, some r => some (renObj f o :: r)
    | _, _ => none
theorem selH_ok {f : Nat → Option Nat} : ∀ {ks : List Nat} {H' : List AObj}, selH f H ks = some H' → H'.length = ks.length ∧ ∀ (j : Nat) o', H'[j]? = some o' → ∃ k o, ks[j]? = some k ∧ H[k]? = some o ∧ o' = renObj f o
  | [], H', h => by
    simp only [selH] at h; injection h with h; subst h
    exact ⟨rfl, fun j o' h => by simp at h⟩
  | k :: ks, H', h => by
    simp only [selH] at h
    split at h
    · rename_i o r h1 h2
      injection h with h; subst h
      obtain ⟨g1, g2⟩ := selH_ok h2
      refine ⟨by simp [g1], fun j o' ho => ?_⟩
      cases j with
      | zero => simp at ho; subst ho; rw [nth_eq] at h1; exact ⟨k, o, rfl, h1, rfl⟩
      | succ j => simp at ho; simpa using g2 j o' ho
    · cases h
def selOk (ks : List Nat) (nb : Nat) : Bool := ks.Nodup && (List.range nb).all fun i => nth ks i == some i
theorem SRel.sel {B : Base P} {σ : St} {a : Act} (h : SRel B μ σ a w) {ks : List Nat} {H' : List AObj} (hs : selH (idx ks) σ.H ks = some H') (hk : selOk ks σ.nb.n = true) :
    ∃ μ', SRel B μ' ⟨σ.s.map (ren (idx ks) 4), H', σ.fg, σ.nb⟩ a w := by
  unfold selOk at hk
  rw [Bool.and_eq_true] at hk
  obtain ⟨hnd, hnb⟩ := hk
  have hnd : ks.Nodup := by simpa using hnd
  have hnb : ∀ i, i < σ.nb.n → ks[i]? = some i := fun i hi => by
    have := List.all_eq_true.1 hnb i (List.mem_range.2 hi)
    rw [nth_eq] at this
    simpa using this
  obtain ⟨s1, s2⟩ := selH_ok hs
  let μ' : Mu := fun j => (ks[j]?).bind μ
  have hf : ∀ i j l, idx ks i = some j → μ i = some l → μ' j = some l := fun i j l hi hm => by simp [μ', idx_ok hi, hm]
  have hmu : ∀ j l, μ' j = some l → ∃ k, ks[j]? = some k ∧ μ k = some l := fun j l hj => by
    simp only [μ', Option.bind_eq_some_iff] at hj; exact hj
  have hoo : ∀ b, OO B.X H' μ' b → OO B.X σ.H μ b := by
    rintro b (hx | ⟨j, o', m, hj, hst, hm⟩)
    · exact .inl hx
    · obtain ⟨k, hk1, hk2⟩ := hmu _ _ hm
      obtain ⟨k', o, hk', ho, rfl⟩ := s2 j o' hj
      rw [hk1] at hk'; injection hk' with hk'; subst hk'
      exact .inr ⟨k, o, m, ho, by rw [← (renObj_same (idx ks) o).1]; exact hst, hk2⟩
  have hren : ∀ {a : AV} {v : Value}, RV (OO B.X σ.H μ) w μ a v → RV (OO B.X H' μ') w μ' (ren (idx ks) 4 a) v := fun hr => ren_rv hf (fun b _ hb => hoo b hb) (fun _ _ _ => rfl) 4 hr
  refine ⟨μ', by simpa using h.size, fun t x v hx hv => ?_, ⟨fun j l hj => ?_, fun i j b m m2 hi hj => ?_, fun i b m hi => ?_, fun j o' hj hst => ?_, h.H.xlt, h.H.gl.sub (fun b ⟨i, m, hi⟩ => (let ⟨k, _, hk2⟩ := hmu _ _ hi; ⟨k, m, hk2⟩))⟩, h.df.sub (fun b ⟨i, m, hi⟩ => (let ⟨k, _, hk2⟩ := hmu _ _ hi; ⟨k, m, hk2⟩)) (fun i b m hi => (let ⟨k, _, hk2⟩ := hmu _ _ hi; h.H.lt k b m hk2)), h.chg, fun i b m hi => ?_, h.nb, ?_, fun k x v hk hx => ?_⟩
  · simp only [List.getElem?_map, Option.map_eq_some_iff] at hx
    obtain ⟨y, hy, rfl⟩ := hx
    exact hren (h.slot t y v hy hv)
  · obtain ⟨k, hk1, _⟩ := hmu _ _ hj
    rw [s1]; exact (List.getElem?_eq_some_iff.1 hk1).1
  · obtain ⟨k, hk1, hk2⟩ := hmu _ _ hi
    obtain ⟨k', hk1', hk2'⟩ := hmu _ _ hj
    have := h.H.inj k k' b m m2 hk2 hk2'
    subst this
    have h1 := List.getElem?_eq_some_iff.1 hk1
    have h2 := List.getElem?_eq_some_iff.1 hk1'
    have hp := List.pairwise_iff_getElem.1 hnd
    rcases Nat.lt_trichotomy i j with hlt | heq | hgt
    · exact (hp i j h1.1 h2.1 hlt (h1.2.trans h2.2.symm)).elim
    · exact heq
    · exact (hp j i h2.1 h1.1 hgt (h2.2.trans h1.2.symm)).elim
  · obtain ⟨k, hk1, hk2⟩ := hmu _ _ hi
    exact h.H.lt k b m hk2
  · obtain ⟨k, o, hk1, ho, rfl⟩ := s2 j o' hj
    exact renObj_at hf (fun b _ hb => hoo b hb) (fun _ _ _ => rfl) (h.H.obj k o ho (by rw [← (renObj_same (idx ks) o).1]; exact hst)) (fun l hl => by simp [μ', hk1, hl]) fun _ _ _ => rfl
  · obtain ⟨k, hk1, hk2⟩ := hmu _ _ hi
    exact h.ext k b m hk2
  · rw [s1]
    rcases Nat.eq_zero_or_pos σ.nb.n with h0 | h0
    · rw [h0]; exact Nat.zero_le _
    · have := (List.getElem?_eq_some_iff.1 (hnb (σ.nb.n - 1) (by omega))).1
      simp only; omega
  · refine (h.pres k x v hk hx).mono (fun b _ hb => hoo b hb) (fun _ _ _ => rfl) _ fun i l hi => ?_
    unfold upto at hi ⊢
    split at hi
    · rename_i hlt
      rw [if_pos hlt]
      simp [μ', hnb i (by simp only at hk; omega), hi]
    · cases hi
theorem Tells.sel {σ : St} (ks : List Nat) {H' : List AObj} (hs : selH (idx ks) σ.H ks = some H') (hk : selOk ks σ.nb.n = true) : Tells σ ⟨σ.s.map (ren (idx ks) 4), H', σ.fg, σ.nb⟩ := fun P B μ a w hr => hr.sel hs hk

theorem aw_eq {r : Option Nat} {Q : Exit → St → Prop} {σ σ' : St} {c : Code} (h : σ = σ') (n : AW P r c Q σ') : AW P r c Q σ := by rw [h]; exact n
theorem al_eq {r : Option Nat} {l R : List Oper} {Q : Exit → St → Prop} {σ σ' : St} (h : σ = σ') (n : AL P r l Q R σ') : AL P r l Q R σ := by rw [h]; exact n
theorem al_then {r : Option Nat} {l : List Oper} {Q Q' : Exit → St → Prop} {σ : St} {c : Code} (h : AW P r c Q σ) : AL P r l (Then (AW P r c Q) Q') [] σ := al_nil h
/-! what a function answers -/
def aRes (tab : Tab) (σ : St) : List ResultVar → Option (Prop × List AV)
  | [] => some (True, [])
  | .tmp t :: r => match aRes tab σ r with | some (q, l) => some (q, σ.ev (.tmp t) :: l) | none => none
  | .cell c t :: r => match aLoad tab t (σ.ev (.tmp c)) σ.H, aRes tab σ r with | some (q', x), some (q, l) => some (q' ∧ q, x :: l) | _, _ => none
def resOf : List AV → AV
  | [x] => x
  | l => .tup l
theorem aLoad_ptr {t : TypeId} {p : AV} {q : Prop} {x : AV} (h : aLoad tab t p H = some (q, x)) {v : Value} (hv : RV O w μ p v) : ∃ a, v = .pointer (some a) := by
  unfold aLoad at h
  split at h
  · cases h
  · split at h
    · cases hv; exact ⟨_, rfl⟩
    · cases hv; exact ⟨_, rfl⟩
    · cases h
theorem res_run (hT : TabOk P tab) {B : Base P} {σ : St} {a : Act} (h : SRel B μ σ a w) : ∀ (rs : List ResultVar) {q : Prop} {l : List AV}, aRes tab σ rs = some (q, l) → q →
    ∃ vs, (rs.mapM fun x => (match x with | .tmp t => pure (a.tmps.getD t undef) | .cell c t => do loadVar t (← asAddr (a.tmps.getD c undef)) : Sem Value)).run P w = .ok vs w ∧ RVs (OO B.X σ.H μ) w μ l vs
  | [], q, l, hl, hq => by
    simp only [aRes] at hl; injection hl with hl; injection hl with _ e2; subst e2
    exact ⟨[], by simp, RVs.nil⟩
  | .tmp t :: rs, q, l, hl, hq => by
    simp only [aRes] at hl
    split at hl
    · rename_i q' l' hl'
      injection hl with hl; injection hl with e1 e2; subst e1 e2
      obtain ⟨vs, h1, h2⟩ := res_run hT h rs hl' hq
      exact ⟨_ :: vs, by rw [List.mapM_cons]; simp only [Sem.run_bind, Sem.run_pure, Result.andThen_ok, h1]; rfl, .cons (h.ev (.tmp t)) h2⟩
    · cases hl
  | .cell c t :: rs, q, l, hl, hq => by
    simp only [aRes] at hl
    split at hl
    · rename_i q1 x q2 l' hx hl'
      injection hl with hl; injection hl with e1 e2; subst e1 e2
      obtain ⟨vs, h1, h2⟩ := res_run hT h rs hl' hq.2
      have hc := h.ev (.tmp c)
      obtain ⟨u, h3, h4⟩ := load_sound hT hx hq.1 h.H hc
      obtain ⟨ad, had⟩ := aLoad_ptr hx hc
      simp only [Act.eval] at had h3
      rw [had] at h3
      simp only [Instr.loadAt, Instr.sureAddr, Sem.run_bind, Sem.run_pure, Result.andThen_ok] at h3
      refine ⟨u :: vs, ?_, .cons h4 h2⟩
      have hasd : asAddr (.pointer (some ad)) = (pure ad : Sem Addr) := rfl
      rw [List.mapM_cons]
      simp only [Sem.run_bind, had, hasd, Sem.run_pure, Result.andThen_ok, h3, h1]
    · cases hl
theorem resOf_rv : ∀ {l : List AV} {vs : List Value}, RVs O w μ l vs → RV O w μ (resOf l) (if h : vs.toArray.size = 1 then vs.toArray[0] else .tuple vs.toArray)
  | [], vs, h => by
    obtain rfl := h.unnil
    rw [dif_neg (by simp)]
    exact .tup (vs := []) rfl (fun j a v h => by simp at h)
  | [x], vs, h => by
    obtain ⟨v, us, rfl, g1, g2⟩ := h.uncons
    obtain rfl := g2.unnil
    simpa [resOf] using g1
  | x :: y :: l, vs, h => by
    obtain ⟨v, us, rfl, g1, g2⟩ := h.uncons
    obtain ⟨v2, us2, rfl, g3, g4⟩ := g2.uncons
    rw [dif_neg (by simp)]
    exact .tup h.1 h.2
theorem results_run (hT : TabOk P tab) {B : Base P} {σ : St} {a : Act} (h : SRel B μ σ a w) {fn : Func} {q : Prop} {l : List AV} (hl : aRes tab σ fn.results.toList = some (q, l)) (hq : q) :
    ∃ vs : List Value, (results fn a.tmps).run P w = .ok (if h : vs.toArray.size = 1 then vs.toArray[0] else .tuple vs.toArray) w ∧ RVs (OO B.X σ.H μ) w μ l vs := by
  obtain ⟨vs, h1, h2⟩ := res_run hT h _ hl hq
  have hrun : (results fn a.tmps).run P w = .ok (if h : vs.toArray.size = 1 then vs.toArray[0] else .tuple vs.toArray) w := by
    unfold results
    rw [Sem.run_bind, Array.mapM_eq_mapM_toList, Sem.run_map]
    erw [h1]
    rfl
  exact ⟨vs, hrun, h2⟩
def RetP (tab : Tab) (rs : List ResultVar) (K : AV → List AObj → List Nat → Prop) : Exit → St → Prop
  | .normal, σ | .ret, σ => ∃ q l, aRes tab σ rs = some (q, l) ∧ q ∧ ∃ l' H', Tells ⟨l, σ.H, σ.fg, σ.nb⟩ ⟨l', H', σ.fg, σ.nb⟩ ∧ K (resOf l') H' σ.fg
  | _, _ => False
theorem SRel.down {B : Base P} {X' : Nat → Prop} {σ : St} {a : Act} (hg : Grows B X') (h : SRel (B.at_ X') μ σ a w) (he : Ex B μ σ.nb a.defers w) : SRel B μ σ a w := by
  have hoo : ∀ {H : List AObj} {μ : Mu} b, OO B.X H μ b → OO X' H μ b := fun b hb => hb.imp (hg.le b) id
  have up : ∀ {w : World} {H : List AObj} {μ ν : Mu} {x : AV} {v : Value}, RV (OO X' H μ) w ν x v → RV (OO B.X H μ) w ν x v := fun {w H μ ν x v} hx => hx.mono (fun b _ hb => hoo b hb) (fun _ _ _ => rfl) ν fun _ _ h => h
  refine ⟨h.size, fun t x v hx hv => up (h.slot t x v hx hv), ⟨h.H.dom, h.H.inj, fun i b m hi => ⟨(h.H.lt i b m hi).1, fun hx => (h.H.lt i b m hi).2 (hg.le b hx)⟩, fun i o hi hs => (h.H.obj i o hi hs).mono (fun b _ hb => hoo b hb) (fun _ _ _ => rfl) (fun _ _ h => h) fun _ _ _ => rfl, fun b hx => h.H.xlt b (hg.le b hx), h.H.gl.step (Nat.le_refl _) (fun _ _ _ _ => rfl) (fun b hb => .inl (hg.le b hb)) fun i b m hi => .inl ⟨i, m, hi⟩⟩, he, h.chg, h.ext, h.nb, h.le, fun k x v hk hx => up (h.pres k x v hk ?_)⟩
  exact hx.mono (fun b hb hb' => hb'.imp (fun hx => (hg.new b hx).elim id fun h => absurd hb (Nat.not_lt.2 h)) id) (fun _ _ _ => rfl) _ fun _ _ h => h
theorem SRel.obj {B : Base P} {σ : St} {t : Array Value} {ds ds' : List Deferred} {D : Nat} {o o' : Obj} (h : SRel B μ σ { tmps := t, defers := ds } w) (hD : w.heap[D]? = some o) (hnc : o.isCells = false) (hm : ¬ InMu μ D) (hsz : B.w.heap.size ≤ D ∨ B.Y D)
    (hex : Ex B μ σ.nb ds' (w.putObj D o')) : SRel B μ σ { tmps := t, defers := ds' } (w.putObj D o') := by
  have hc : ∀ b, ∀ o1 u, w.cell? ⟨b, o1, none⟩ = some u → (w.putObj D o').cell? ⟨b, o1, none⟩ = some u := fun b o1 u hu => by
    by_cases hb : b = D
    · subst hb
      unfold World.cell? at hu
      simp only [hD] at hu
      cases o <;> first | (cases hnc; done) | (cases hu; done)
    · rw [World.cell?_of_block (w := w) (World.putObj_heap_other hb)]; exact hu
  have up : ∀ {ν : Mu} {x : AV} {v : Value}, RV (OO B.X σ.H μ) w ν x v → RV (OO B.X σ.H μ) (w.putObj D o') ν x v := fun {ν x v} hx => hx.monoC (fun _ _ h => h) (by simp) (fun b _ _ => hc b) ν fun _ _ h => h
  refine ⟨h.size, fun k x v hx hv => up (h.slot k x v hx hv), ⟨h.H.dom, h.H.inj, fun i b m hi => by simpa using h.H.lt i b m hi, fun i o1 hi hs => (h.H.obj i o1 hi hs).monoC (fun _ _ h => h) (by simp) (fun b _ _ => hc b) fun b m hb => World.putObj_heap_other (by rintro rfl; exact hm ⟨i, m, hb⟩), fun b hx => by simpa using h.H.xlt b hx, h.H.gl.stepC (by simp) (fun b _ _ _ => hc b) (fun _ h => .inl h) fun i b m hi => .inl ⟨i, m, hi⟩⟩, hex,
    ⟨h.chg.os, h.chg.tape, h.chg.output, by simpa using h.chg.size, fun k hk hn hy => (World.putObj_heap_other (by rintro rfl; exact hsz.elim (fun h => by omega) hy)).trans (h.chg.block k hk hn hy)⟩, h.ext, h.nb, h.le, fun k x v hk hx => up (h.pres k x v hk hx)⟩
/-- The marks are shut, one after the other. -/
theorem leaves_marks {B : Base P} {σ : St} {fn : Func} {t : Array Value} {R : Ending → World → Prop} : ∀ (ds : List Deferred) {w : World}, SRel B μ σ { tmps := t, defers := ds } w →
    (∀ w', SRel B μ σ { tmps := t, defers := [] } w' → ∃ v, (results fn t).run P w' = .ok v w' ∧ R (.returned v) w') → LeavesInM Fence.wide 0 P fn t R ds .returning w
  | [], w, h, hk => hk w h
  | d :: ds, w, h, hk => by
    obtain ⟨D, hd, h2, h3, h4, h5⟩ := h.df.marks d (by simp)
    subst hd
    have hap := List.pairwise_cons.1 h.df.apart
    refine ⟨by simp, .inl ⟨D, _, rfl, run_takeDeferred h2, leaves_marks ds (h.obj h2 rfl h3 (.inl h5) ⟨h.df.sp, h.df.ok, h.df.ok.keep _ _ _ _ w _ _ h.df.jr ⟨rfl, rfl, rfl, by simp, fun k hk hn => World.putObj_heap_other (by rintro rfl; exact hn (.inr (by simp)))⟩ fun k hk => ?_, fun d' hd' => ?_, hap.2, fun h0 => (by have := h.df.nm h0; cases this), h.df.xy, h.df.triv, fun D' o ho => ?_⟩) hk⟩⟩
    · rcases hk with ⟨i, m, hi⟩ | hk
      · exact ⟨.inl (.inl ⟨i, m, hi⟩), (h.H.lt i k m hi).2, by simpa using (h.H.lt i k m hi).1⟩
      · obtain ⟨D', e1, e2, e3, e4, e5⟩ := h.df.marks _ (List.mem_cons_of_mem _ hk)
        injection e1 with e1
        injection e1 with e1
        subst e1
        exact ⟨.inl (.inr (List.mem_cons_of_mem _ hk)), e4, by simpa using (Array.getElem?_eq_some_iff.1 e2).1⟩
    · obtain ⟨D', e1, e2, e3, e4, e5⟩ := h.df.marks d' (List.mem_cons_of_mem _ hd')
      refine ⟨D', e1, (World.putObj_heap_other ?_).trans e2, e3, e4, e5⟩
      rintro rfl
      exact hap.1 d' hd' e1.symm
    · obtain ⟨e1, e2, e3, e4⟩ := h.df.kp D' o ho
      exact ⟨(World.putObj_heap_other (by rintro rfl; omega)).trans e1, e2, e3, e4⟩
/-- A function, out of its code. -/
theorem acall_of (hT : TabOk P tab) {f : FuncId} {fn : Func} {c : Code} (hf : P.funcs[f]? = some fn) (hb : fn.body = some c) {args : List AV} {K : AV → List AObj → List Nat → Prop}
    (h : AW P none c (RetP tab fn.results.toList K) ⟨args ++ List.replicate (fn.ntmps - args.length) (.lit undef), H, [], ⟨H.length, 0, false, none, true⟩⟩) : ACall P f args H K := by
  intro w X μ vs hH hargs
  refine callsIn_wide.1 (callsIn_of_wp_marks (F := Fence.wide) (n := 0) hf hb trivial ?_)
  let B : Base P := ⟨w, X, μ, H, fun _ => False, none, fun _ _ _ _ _ => True, none⟩
  have hr : SRel B μ ⟨args ++ List.replicate (fn.ntmps - args.length) (.lit undef), H, [], ⟨H.length, 0, false, none, true⟩⟩ { tmps := vs.toArray ++ Array.replicate (fn.ntmps - vs.toArray.size) undef, defers := [] } w := by
    refine ⟨by simp [hargs.1], fun t x v hx hv => ?_, hH, ⟨rfl, ⟨fun _ _ _ _ _ _ _ _ _ _ => trivial, fun l xs n h => by cases h⟩, trivial, fun d hd => by simp at hd, .nil, fun _ => rfl, fun h => (h rfl).elim, fun _ _ _ _ _ _ => trivial, fun D o h => by cases h⟩, ⟨rfl, rfl, rfl, Nat.le_refl _, fun _ _ _ _ => rfl⟩, Ext.refl _ _, rfl, Nat.le_refl _, fun k x v _ hx => hx⟩
    by_cases hlt : t < args.length
    · rw [List.getElem?_append_left hlt] at hx
      rw [Array.getElem?_append_left (by simpa [← hargs.1] using hlt)] at hv
      exact hargs.2 t x v hx (by simpa using hv)
    · rw [List.getElem?_append_right (by omega)] at hx
      rw [Array.getElem?_append_right (by simp [← hargs.1]; omega)] at hv
      rw [List.getElem?_replicate] at hx
      rw [Array.getElem?_replicate] at hv
      split at hx
      · injection hx with hx; subst hx
        split at hv
        · injection hv with hv; subst hv; exact .lit _
        · cases hv
      · cases hx
  refine wpIn_mono (h B μ _ w hr) fun e a' w' ⟨σ', h1, μ', X', hg, h2⟩ => ?_
  have h2 : SRel B μ' σ' a' w' := h2.down hg ⟨h2.df.sp, ⟨fun _ _ _ _ _ _ _ _ _ _ => trivial, fun l xs n h => by cases h⟩, trivial, fun d hd => (let ⟨D, e1, e2, e3, e4, e5⟩ := h2.df.marks d hd; ⟨D, e1, e2, e3, fun hx => e4 (hg.le D hx), e5⟩), h2.df.apart, h2.df.nm, fun h => (h rfl).elim, fun _ _ _ _ _ _ => trivial, fun D o h => by cases h⟩
  have fin : (∃ q l, aRes tab σ' fn.results.toList = some (q, l) ∧ q ∧ ∃ l' H', Tells ⟨l, σ'.H, σ'.fg, σ'.nb⟩ ⟨l', H', σ'.fg, σ'.nb⟩ ∧ K (resOf l') H' σ'.fg) → LeavesInM Fence.wide 0 P fn a'.tmps (fun e w' =>
      ∃ v' r H' fg μ', e = .returned v' ∧ K r H' fg ∧ HRel μ' X H' w' ∧ RV (OO X H' μ') w' μ' r v' ∧ Chg μ w w' ∧ Ext μ w μ' ∧ H.length ≤ H'.length ∧ ∀ k x u, k ≤ H.length → RV (OO X H μ) w (upto k μ) x u → RV (OO X H' μ') w' (upto k μ') (fgs (fgk k fg) x) u) a'.defers .returning w' := by
    rintro ⟨q, l, g1, g2, l', H1, gt, g3⟩
    refine leaves_marks a'.defers h2 fun w' h2 => ?_
    obtain ⟨vs, g4, g5⟩ := results_run hT h2 g1 g2
    obtain ⟨μ1, h3⟩ := gt P B μ' { tmps := vs.toArray, defers := [] } w' ⟨by simpa using g5.1, fun t x v hx hv => g5.2 t x v hx (by simpa using hv), h2.H, h2.df, h2.chg, h2.ext, h2.nb, h2.le, h2.pres⟩
    have hnb : σ'.nb.n = H.length := h2.nb
    have hlv : RVs (OO X H1 μ1) w' μ1 l' vs := ⟨by simpa using h3.size, fun j x v hx hv => h3.slot j x v hx (by simpa using hv)⟩
    refine ⟨_, g4, _, resOf l', H1, σ'.fg, μ1, rfl, g3, h3.H, resOf_rv hlv, ⟨h3.chg.os, h3.chg.tape, h3.chg.output, h3.chg.size, fun k hk hn => h3.chg.block k hk hn id⟩, h3.ext, by have := h3.le; simp only at this; omega, fun k x u hk hx => h3.pres k x u (by simp only; omega) hx⟩
  cases e <;> simp only [RetP] at h1 <;> first | exact h1.elim | exact fin h1
end
end Go.Proofs.YthdckgcalooipaaDoor
