/- More operations: against nil. -/
import Derived.Test.YthcoccoanpmhgaaDoorAWp4
namespace Go.Proofs.YthcoccoanpmhgaaDoor
open Go.RowKit
set_option linter.unusedVariables false
set_option linter.unusedSimpArgs false
set_option linter.unusedSectionVars false
variable {P : Program} {tab : Tab} {X : Nat → Prop} {H H' : List AObj} {μ μ' : Mu} {w w' : World} {O O' : Nat → Prop} {r : Option Nat} {l R : List Oper} {Q : Exit → St → Prop} {σ : St} {o : Oper}
def lenA : AV → Option Nat
  | .sl _ n _ _ => some n
  | .row _ _ _ n _ => some n
  | .lit (.slice none 0 0) => some 0
  | _ => none
theorem lenA_ok {x : AV} {n : Nat} (h : lenA x = some n) {v : Value} (hv : RV O w μ x v) : ∃ A c, v = .slice A n c ∧ (A = none → n = 0) := by
  unfold lenA at h
  split at h <;> first | (cases h; done) | (injection h with h; subst h)
  · cases hv with
    | sl a0 a1 a2 a3 a4 a5 a6 a7 a8 =>
      refine ⟨_, _, rfl, fun hA => ?_⟩
      refine Classical.byContradiction fun h => ?_
      obtain ⟨g, o, he, _⟩ := a8 h
      rw [hA] at he; cases he
  · cases hv with
    | rowNil => exact ⟨_, _, rfl, fun _ => rfl⟩
    | row => exact ⟨_, _, rfl, fun h => by cases h⟩
    | rowE => exact ⟨_, _, rfl, fun _ => rfl⟩
  · cases hv; exact ⟨_, _, rfl, fun _ => rfl⟩
def isSlice (tab : Tab) (t : TypeId) : Bool := match tab t with | some i => (match i.k with | .slice _ => true | _ => false) | none => false
theorem isSlice_ok (hT : TabOk P tab) {t : TypeId} (h : isSlice tab t = true) : ∃ e, P.underlying t = some (.slice e) := by
  unfold isSlice at h
  split at h
  · rename_i i hi
    have hu := (hT _ _ hi).und
    split at h
    · rename_i e hk; rw [hk] at hu; exact ⟨e, hu⟩
    · cases h
  · cases h
def nilB (op : BinOp) (b : Bool) : Bool := match op with | .eql => b | _ => !b
/-- x == nil, x != nil: it may be either where x has no element. -/
theorem al_isnil (hT : TabOk P tab) (hw : wantA l σ o = some true) {op : BinOp} {t yt : TypeId} {x : Operand} (ho : o.op = .binOp op t x (.const (.slice none 0 0)) yt) (hop : op = .eql ∨ op = .neq) (ht : isSlice tab t = true) {n : Nat} (hx : lenA (σ.ev x) = some n)
    (next : ∀ b : Bool, (b = true → n = 0) → AL P r l Q R (σ.put o.dst (.lit (.bool (nilB op b))))) : AL P r l Q (o :: R) σ := by
  intro B μ a w hr
  obtain ⟨A, c, hv, hA⟩ := lenA_ok hx (hr.ev x)
  obtain ⟨e, hu⟩ := isSlice_ok hT ht
  have heq : (Op.equal t (.slice A n c) (.slice none 0 0)).run P w = .ok A.isNone w := by
    show (Op.equalIn (9999 + 1) t (.slice A n c) (.slice none 0 0)).run P w = _
    rw [Op.equalIn, Sem.run_bind, run_underlying hu]
    cases A <;> rfl
  have hrun : (execOp a.eval o).run P w = .ok (.value (.bool (nilB op A.isNone))) w := by
    have hex : execOp a.eval o = (do pure (.value (← (do eqGuard op t x (.const (.slice none 0 0)) (a.eval x) (.slice none 0 0); binOp op t (a.eval x) (.slice none 0 0)))) : Sem Next) := by
      simp only [execOp, ho]; rfl
    rw [hex, hv]
    rcases hop with rfl | rfl <;> simp [eqGuard, binOp, heq, nilB]
  unfold wpListIn
  rw [if_pos (wantA_ok hw hr)]
  refine ⟨fun f _ => fw_fn r f, ?_⟩
  rw [Oper.semAt_eq _ _ _ (fun c hc => by rw [ho] at hc; cases hc), hrun]
  exact next A.isNone (fun h => hA (by simpa using h)) B μ _ w (hr.put (.lit _) o.dst)
theorem AV.Le.nil {sz n : Nat} {f : Nat → List AV} (hn : n = 0) (hz : Nat.blt 0 sz = true) : AV.Le (.lit (.slice none 0 0)) (.sl sz n false f) := by
  intro O w μ v hv
  rw [Nat.blt_eq] at hz
  subst hn
  rw [hv.lit_eq]
  exact .sl (vs := []) (by simp) (Nat.le_refl _) (by unfold maxLen; omega) (fun h => by cases h) (by simp) (fun k hk => by omega) (fun k j a v hk => by omega) hz fun h => (h rfl).elim
/-- A row that is handed out: nobody writes it any more. -/
theorem Tells.thaw {t : Nat} {x y : AV} {q : Prop} {used : List Nat} (hx : nth σ.s t = some x) (h : thaw σ.H 4 x = some (q, y, used)) (hq : q) : Tells σ ⟨setn σ.s t y, share used 0 σ.H, σ.fg, σ.nb⟩ := by
  intro P B μ a w hr
  have hoo : ∀ b, OO B.X (share used 0 σ.H) μ b → Less (OO B.X σ.H μ) μ used b := by
    rintro b (hb | ⟨i, o, m, hi, hs, hm⟩)
    · exact ⟨.inl hb, fun i _ m hm => (hr.H.lt i b m hm).2 hb⟩
    · rw [share_at] at hi
      simp only [Option.map_eq_some_iff, Nat.zero_add] at hi
      obtain ⟨o1, h1, h2⟩ := hi
      have hnu : used.any (Nat.beq i) = false := by
        cases hc : used.any (Nat.beq i) with
        | false => rfl
        | true => rw [hc] at h2; simp only at h2; rw [← h2] at hs; simp at hs <;> omega
      rw [hnu] at h2
      simp only at h2
      subst h2
      refine ⟨.inr ⟨i, o1, m, h1, hs, hm⟩, fun k hk m' hm' => ?_⟩
      have := hr.H.inj _ _ _ _ _ hm hm'
      subst this
      have : used.any (Nat.beq i) = true := List.any_eq_true.2 ⟨i, hk, by simp⟩
      rw [hnu] at this; cases this
  have up : ∀ {ν : Mu} {a : AV} {v : Value}, RV (OO B.X σ.H μ) w ν a v → RV (OO B.X (share used 0 σ.H) μ) w ν a v := fun h => h.mono (fun b _ hb => (hoo b hb).1) (fun _ _ _ => rfl) _ fun _ _ h => h
  refine ⟨μ, by simpa [setn_eq] using hr.size, fun k z v hz hv => ?_, ⟨fun i l hi => by simp only [share_len]; exact hr.H.dom i l hi, hr.H.inj, hr.H.lt, fun i o hi hs => ?_, hr.H.xlt, hr.H.gl⟩, hr.df, hr.chg, hr.ext, hr.nb, by simp only [share_len]; exact hr.le, fun k z v hk hz => up (hr.pres k z v hk hz)⟩
  · simp only [setn_eq] at hz
    by_cases he : t = k
    · subst he
      have hlt : t < σ.s.length := by rw [hr.size]; exact (Array.getElem?_eq_some_iff.1 hv).1
      rw [List.getElem?_set_self hlt] at hz
      injection hz with hz; subst hz
      rw [nth_eq] at hx
      exact ((thaw_rv hr.H 4 h hq (hr.slot t x v hx hv)).mono (fun b _ hb => hoo b hb) (fun _ _ _ => rfl) _ fun _ _ h => h).up
    · rw [List.getElem?_set_ne he] at hz
      exact up (hr.slot k z v hz hv)
  · simp only [share_at, Option.map_eq_some_iff, Nat.zero_add] at hi
    obtain ⟨o1, h1, h2⟩ := hi
    have hst : o1.st < 2 := by
      split at h2 <;> rw [← h2] at hs
      · simp at hs; omega
      · exact hs
    have hat := hr.H.obj i o1 h1 hst
    have hfin : ObjAt (OO B.X (share used 0 σ.H) μ) w μ i o1 := hat.mono (fun b _ hb => (hoo b hb).1) (fun _ _ _ => rfl) (fun _ _ h => h) fun _ _ _ => rfl
    split at h2 <;> rw [← h2]
    · obtain ⟨hz, hc⟩ := hfin
      exact ⟨hz, hc.imp (fun h => h) fun ⟨b, m, cur, e1, e2⟩ => ⟨b, m, cur, e1, ⟨e2.blk, e2.size, e2.le, e2.nle, e2.one, e2.flen, e2.cell⟩⟩⟩
    · exact hfin
theorem aw_cond_t {c : Operand} {x y : Code} (hc : σ.ev c = .lit (.bool true)) (h : AW P r x Q σ) : AW P r (.cond c x y) Q σ := aw_cond hc (fun _ => h) (fun h => by cases h)
theorem aw_cond_f {c : Operand} {x y : Code} (hc : σ.ev c = .lit (.bool false)) (h : AW P r y Q σ) : AW P r (.cond c x y) Q σ := aw_cond hc (fun h => by cases h) (fun _ => h)
theorem APure.le {f : FuncId} {args args' : List AV} {x : AV} {N : List AObj} (h : APure P f args' x N) (hl : LeS args args') : APure P f args x N := fun w X μ vs hH hv => h w X μ vs hH ⟨hl.len ▸ hv.1, fun j a v ha hu => by
  obtain ⟨y, hy, hle⟩ := hl.at_ ha
  exact hle _ _ _ _ (hv.2 j y v hy hu)⟩
def junkL : List AV → List Nat → List AV
  | s, [] => s
  | s, t :: ts => junkL (setn s t .junk) ts
def setsL : List AV → List (Nat × AV) → List AV
  | s, [] => s
  | s, p :: ps => setsL (setn s p.1 p.2) ps
def lst (s : List AV) (fg : List Nat) (nb : YB) (ws : List Nat) (g : List (Nat × AV)) (H : List AObj) : St := ⟨setsL (junkL s ws) g, H, fg, nb⟩
/-- A loop: what is known of its slots and objects at a round's head. -/
theorem aw_loopw {c : Code} {ι : Type} {s : List AV} {H0 : List AObj} {fg : List Nat} {nb : YB} (ws : List Nat) (g : ι → List (Nat × AV)) (Hs : ι → List AObj) (m : ι → Nat) (i0 : ι) (h0 : Tells ⟨s, H0, fg, nb⟩ (lst s fg nb ws (g i0) (Hs i0)))
    (round : ∀ i, AW P r c (Then (fun σ' => ∃ j, m j < m i ∧ Tells σ' (lst s fg nb ws (g j) (Hs j))) Q) (lst s fg nb ws (g i) (Hs i))) : AW P r (.loop c) Q ⟨s, H0, fg, nb⟩ :=
  aw_loop (fun i => lst s fg nb ws (g i) (Hs i)) m i0 h0 round
theorem then_ret {n : St → Prop} (h : Q .ret σ) : Then n Q .ret σ := h
theorem then_exit {n : St → Prop} {id : Nat} (h : Q (.exit id) σ) : Then n Q (.exit id) σ := h
theorem inb_ret {id : Nat} (h : Q .ret σ) : InBlock id Q .ret σ := h
theorem inb_norm {id : Nat} (h : Q .normal σ) : InBlock id Q .normal σ := h
theorem inb_exit {id id' : Nat} (he : Nat.beq id' id = true) (h : Q .normal σ) : InBlock id Q (.exit id') σ := by simp only [InBlock, he]; exact h
theorem inb_other {id id' : Nat} (he : Nat.beq id' id = false) (h : Q (.exit id') σ) : InBlock id Q (.exit id') σ := by simp only [InBlock, he]; exact h
theorem then_norm {c : Code} {Q' : Exit → St → Prop} (h : AW P r c Q σ) : Then (AW P r c Q) Q' .normal σ := h
theorem retp {rs : List ResultVar} {K : AV → List AObj → List Nat → Prop} {q : Prop} {l : List AV} (h : aRes tab σ rs = some (q, l)) (hq : q) (l' : List AV) (H' : List AObj) (ht : Tells ⟨l, σ.H, σ.fg, σ.nb⟩ ⟨l', H', σ.fg, σ.nb⟩) (hk : K (resOf l') H' σ.fg) : RetP tab rs K .ret σ :=
  ⟨q, l, h, hq, l', H', ht, hk⟩
/-- A function with a body. -/
def GoFn (P : Program) (f : FuncId) : Prop := ∃ fn c, P.funcs[f]? = some fn ∧ (fn.name == "runtime.NumGoroutine") = false ∧ fn.body = some c
theorem al_pc (hw : wantA l σ o = some true) {fo : Operand} {ao : List Operand} {ts : Array TypeId} (ho : o.op = .call { callee := .value fo, args := ao.toArray, argTypes := ts }) {f : FuncId} {fa ca : List AV} (hf : σ.ev fo = .fn (.func f) fa ca) (hg : GoFn P f)
    {q : Prop} {args' : List AV} {used : List Nat} (ht : thawL (thaw σ.H 4) (fa ++ ao.map σ.ev ++ ca) = some (q, args', used)) (hq : q)
    {x : AV} {N : List AObj} (h : APure P f args' x N) (next : AL P r l Q R (St.put ⟨σ.s, share used 0 σ.H ++ N.map (renObj (sh σ.H.length)), σ.fg, σ.nb⟩ o.dst (ren (sh σ.H.length) 4 x))) : AL P r l Q (o :: R) σ := by
  obtain ⟨fn, c, h1, h2, h3⟩ := hg
  exact al_pcall hw ho hf h1 h2 h3 ht hq h next
theorem ObjLe.of {T sz n n' st : Nat} {f f' : Nat → List AV} {p p' bx bx' : Bool} (hn : n' ≤ n) (hp : p' = true → p = true) (hf : ∀ k, k < n' → f' k = f k) : ObjLe ⟨T, sz, n, f, st, p, bx⟩ ⟨T, sz, n', f', st, p', bx'⟩ :=
  ⟨Nat.le_refl _, fun _ => rfl, fun _ => rfl, fun _ => hn, fun _ h => hp h, fun _ k hk => .inl (hf k hk)⟩
theorem ObjLe.gone {o : AObj} {T sz n : Nat} {f : Nat → List AV} {p bx : Bool} (h : o.st ≤ 2) : ObjLe o ⟨T, sz, n, f, 2, p, bx⟩ :=
  ⟨h, fun h => (by simp at h), fun h => (by simp at h), fun h => (by simp at h), fun h => (by simp at h), fun h => (by simp at h)⟩
theorem aw_cond_y {c : Operand} {x y : Code} {b : Bool} (hc : σ.ev c = .lit (.bool b)) (hb : b = true) (h : AW P r x Q σ) : AW P r (.cond c x y) Q σ := aw_cond_t (hb ▸ hc) h
theorem aw_cond_n {c : Operand} {x y : Code} {b : Bool} (hc : σ.ev c = .lit (.bool b)) (hb : b = false) (h : AW P r y Q σ) : AW P r (.cond c x y) Q σ := aw_cond_f (hb ▸ hc) h
theorem inb_exit_ {id id' : Nat} (h : InBlock id Q (.exit id') σ) : InBlock id Q (.exit id') σ := h
theorem aw_cond_ {c : Operand} {x y : Code} (h : AW P r (.cond c x y) Q σ) : AW P r (.cond c x y) Q σ := h
theorem al_cons_ (h : AL P r l Q (o :: R) σ) : AL P r l Q (o :: R) σ := h
theorem LeH.setf : ∀ {H : List AObj} {i : Nat} {ob : AObj} {f' : Nat → List AV}, H[i]? = some ob → (∀ k, k < ob.n → f' k = ob.f k) → LeH H (H.set i { ob with f := f' })
  | [], i, ob, f', h, _ => by simp at h
  | o :: H, 0, ob, f', h, hf => by
    simp at h; subst h
    exact .cons (.of (Nat.le_refl _) (fun h => h) hf) (.refl _)
  | o :: H, i + 1, ob, f', h, hf => .cons (.refl _) (LeH.setf (by simpa using h) hf)
/-- What an object's elements are, in other words. -/
theorem Tells.objf (i : Nat) (f' : Nat → List AV) {s : List AV} {H : List AObj} {fg : List Nat} {nb : YB} {ob : AObj} (h : nth H i = some ob) (hf : ∀ k, k < ob.n → f' k = ob.f k) : Tells ⟨s, H, fg, nb⟩ ⟨s, setn H i { ob with f := f' }, fg, nb⟩ := by
  rw [setn_eq]; rw [nth_eq] at h
  exact Tells.le (.refl _) (LeH.setf h hf)
end Go.Proofs.YthcoccoanpmhgaaDoor
