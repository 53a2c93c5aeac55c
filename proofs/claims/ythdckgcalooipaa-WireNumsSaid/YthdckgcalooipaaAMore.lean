/- More of the walk: conditions by what they say; guards by cases; whole regions drawn; slots that code writes; lists in memory by an encoding. -/
import Derived.Test.YthdckgcalooipaaABridge
namespace Go.Proofs.Ythdckgcalooipaa
open Go.RowKit
set_option linter.unusedVariables false
set_option linter.unusedSimpArgs false
set_option linter.unusedSectionVars false
variable {P : Program} {tab : Tab} {r : Option Nat} {l R : List Oper} {Q : Exit → St → Prop} {σ σ' : St} {o : Oper} {m : Nat}
/-- What a bool says. -/
class BoolP (b : Bool) (p : outParam Prop) : Prop where
  iff : b = true ↔ p
instance (priority := low) boolP_var (b : Bool) : BoolP b (b = true) := ⟨Iff.rfl⟩
instance boolP_dec (p : Prop) [h : Decidable p] : BoolP (decide p) p := ⟨decide_eq_true_iff⟩
instance boolP_beqI (a b : Int) : BoolP (a == b) (a = b) := ⟨beq_iff_eq⟩
instance boolP_bneI (a b : Int) : BoolP (a != b) (a ≠ b) := ⟨bne_iff_ne⟩
instance boolP_beqB (a b : List UInt8) : BoolP (a == b) (a = b) := ⟨beq_iff_eq⟩
instance boolP_beqC (a b : Bool) : BoolP (a == b) (a = b) := ⟨beq_iff_eq⟩
instance boolP_not (b : Bool) (p : Prop) [h : BoolP b p] : BoolP (!b) (¬ p) := ⟨by rw [← h.iff]; cases b <;> simp⟩
instance boolP_and (a b : Bool) (p q : Prop) [h : BoolP a p] [h' : BoolP b q] : BoolP (a && b) (p ∧ q) := ⟨by rw [← h.iff, ← h'.iff]; simp⟩
instance boolP_or (a b : Bool) (p q : Prop) [h : BoolP a p] [h' : BoolP b q] : BoolP (a || b) (p ∨ q) := ⟨by rw [← h.iff, ← h'.iff]; simp⟩
theorem BoolP.no {b : Bool} {p : Prop} (h : BoolP b p) : b = false ↔ ¬ p := by rw [← h.iff]; cases b <;> simp
theorem aw_if {c : Operand} {x y : Code} {b : Bool} {p : Prop} (hc : σ.ev c = .lit (.bool b)) [hb : BoolP b p] (ht : p → AW P r x Q σ) (hf : ¬ p → AW P r y Q σ) : AW P r (.cond c x y) Q σ :=
  aw_cond hc (fun h => ht (hb.iff.1 h)) (fun h => hf (hb.no.1 h))
theorem aw_ift {c : Operand} {x y : Code} {b : Bool} {p : Prop} (hc : σ.ev c = .lit (.bool b)) [hb : BoolP b p] (hp : p) (ht : AW P r x Q σ) : AW P r (.cond c x y) Q σ :=
  aw_if hc (fun _ => ht) (fun h => (h hp).elim)
theorem aw_iff {c : Operand} {x y : Code} {b : Bool} {p : Prop} (hc : σ.ev c = .lit (.bool b)) [hb : BoolP b p] (hp : ¬ p) (hf : AW P r y Q σ) : AW P r (.cond c x y) Q σ :=
  aw_if hc (fun h => (hp h).elim) (fun _ => hf)
/-- The slot on which an operation's guard looks. -/
def gslot (l : List Oper) (o : Oper) : Option Nat :=
  match o.guard with
  | some (j, _) => match nth l j with
    | some oj => oj.dst
    | none => none
  | none => none
theorem setn_self {α : Type} : ∀ {l : List α} {n : Nat} {y : α}, nth l n = some y → setn l n y = l
  | [], _, _, h => by cases h
  | x :: l, 0, y, h => by simp only [nth, Option.some.injEq] at h; rw [setn, h]
  | x :: l, n + 1, y, h => by rw [setn, setn_self (l := l) h]
theorem al_if {t : Nat} {b : Bool} {p : Prop} (hg : gslot l o = some t) (hs : nth σ.s t = some (.lit (.bool b))) [hb : BoolP b p] (ht : p → AL P r l Q (o :: R) ⟨setn σ.s t (.lit (.bool true)), σ.H, σ.fg, σ.nb⟩)
    (hf : ¬ p → AL P r l Q (o :: R) ⟨setn σ.s t (.lit (.bool false)), σ.H, σ.fg, σ.nb⟩) : AL P r l Q (o :: R) σ := by
  cases hv : b with
  | true => subst hv; have := ht (hb.iff.1 rfl); rwa [setn_self hs] at this
  | false => subst hv; have := hf (hb.no.1 rfl); rwa [setn_self hs] at this
theorem ad_if {t : Nat} {b : Bool} {p : Prop} (hg : gslot l o = some t) (hs : nth σ'.s t = some (.lit (.bool b))) [hb : BoolP b p] (ht : p → ADr P r l Q m σ (o :: R) ⟨setn σ'.s t (.lit (.bool true)), σ'.H, σ'.fg, σ'.nb⟩)
    (hf : ¬ p → ADr P r l Q m σ (o :: R) ⟨setn σ'.s t (.lit (.bool false)), σ'.H, σ'.fg, σ'.nb⟩) : ADr P r l Q m σ (o :: R) σ' := by
  cases hv : b with
  | true => subst hv; have := ht (hb.iff.1 rfl); rwa [setn_self hs] at this
  | false => subst hv; have := hf (hb.no.1 rfl); rwa [setn_self hs] at this
theorem al_ift {t : Nat} {b : Bool} {p : Prop} (hg : gslot l o = some t) (hs : nth σ.s t = some (.lit (.bool b))) [hb : BoolP b p] (hp : p) (ht : AL P r l Q (o :: R) ⟨setn σ.s t (.lit (.bool true)), σ.H, σ.fg, σ.nb⟩) : AL P r l Q (o :: R) σ := al_if hg hs (fun _ => ht) (fun h => (h hp).elim)
theorem al_iff {t : Nat} {b : Bool} {p : Prop} (hg : gslot l o = some t) (hs : nth σ.s t = some (.lit (.bool b))) [hb : BoolP b p] (hp : ¬ p) (ht : AL P r l Q (o :: R) ⟨setn σ.s t (.lit (.bool false)), σ.H, σ.fg, σ.nb⟩) : AL P r l Q (o :: R) σ := al_if hg hs (fun h => (hp h).elim) (fun _ => ht)
theorem ad_ift {t : Nat} {b : Bool} {p : Prop} (hg : gslot l o = some t) (hs : nth σ'.s t = some (.lit (.bool b))) [hb : BoolP b p] (hp : p) (ht : ADr P r l Q m σ (o :: R) ⟨setn σ'.s t (.lit (.bool true)), σ'.H, σ'.fg, σ'.nb⟩) : ADr P r l Q m σ (o :: R) σ' := ad_if hg hs (fun _ => ht) (fun h => (h hp).elim)
theorem ad_iff {t : Nat} {b : Bool} {p : Prop} (hg : gslot l o = some t) (hs : nth σ'.s t = some (.lit (.bool b))) [hb : BoolP b p] (hp : ¬ p) (ht : ADr P r l Q m σ (o :: R) ⟨setn σ'.s t (.lit (.bool false)), σ'.H, σ'.fg, σ'.nb⟩) : ADr P r l Q m σ (o :: R) σ' := ad_if hg hs (fun h => (hp h).elim) (fun _ => ht)
/-- A slot's bool, known otherwise. -/
theorem ad_eq {σ'' : St} (h : σ' = σ'') (n : ADr P r l Q m σ R σ'') : ADr P r l Q m σ R σ' := h ▸ n
/-! a region that draws its order, all of it -/
theorem aw_drawall (hm : P.follows .mixedOrders = true) {id : Nat} {l : List Oper} {b : Bool} (hb : b = true) (hok : okD l l.length = true) (hnd : l.all nDefer = true) (h : ADr P r l Q l.length σ l σ) : AW P r (.region id l.toArray b) Q σ := by
  subst hb
  exact aw_drawr hm l.length hok hnd (by rwa [List.take_length])
theorem ad_endall (h : AL P r l Q [] σ') : ADr P r l Q l.length σ [] σ' := ad_end (by rwa [List.drop_length])
/-! slots that code writes -/
def dstsL : List Oper → List Nat
  | [] => []
  | o :: r => match o.dst with | some d => d :: dstsL r | none => dstsL r
def wrC : Code → List Nat
  | .region _ ops _ => dstsL ops.toList
  | .seq a b => wrC a ++ wrC b
  | .cond _ a b => wrC a ++ wrC b
  | .block _ b => wrC b
  | .loop b => wrC b
  | .scope b => wrC b
  | .rangeFunc _ ps a b => ps.toList ++ wrC a ++ wrC b
  | _ => []
theorem aw_loopA {c : Code} {ι : Type} {s : List AV} {H0 : List AObj} {fg : List Nat} {nb : YB} {ws : List Nat} (hws : wrC c = ws) (g : ι → List (Nat × AV)) (Hs : ι → List AObj) (m : ι → Nat) (i0 : ι) (h0 : Tells ⟨s, H0, fg, nb⟩ (lst s fg nb ws (g i0) (Hs i0)))
    (round : ∀ i, AW P r c (Then (fun σ' => ∃ j, m j < m i ∧ Tells σ' (lst s fg nb ws (g j) (Hs j))) Q) (lst s fg nb ws (g i) (Hs i))) : AW P r (.loop c) Q ⟨s, H0, fg, nb⟩ := aw_loopw ws g Hs m i0 h0 round
/-- Where branches meet. -/
theorem aw_joinw {x y : Code} {Q' : Exit → St → Prop} {s : List AV} {H0 : List AObj} {fg : List Nat} {nb : YB} {ws : List Nat} (hws : wrC x = ws) (g : List (Nat × AV)) (H1 : List AObj)
    (h1 : AW P r x (Then (fun σ' => Tells σ' (lst s fg nb ws g H1)) Q') ⟨s, H0, fg, nb⟩) (h2 : AW P r y Q (lst s fg nb ws g H1)) : AW P r x (Then (AW P r y Q) Q') ⟨s, H0, fg, nb⟩ :=
  h1.mono fun e σ' h => by
    cases e <;> first | exact aw_tell h h2 | exact h
/-! a row that a function makes, read as data -/
theorem APure.data {f : FuncId} {args : List AV} {x y : AV} {N : List AObj} {q : Prop} {used : List Nat} (h : APure P f args x N) (ht : thaw N 4 x = some (q, y, used)) (hq : q) : APure P f args y [] := by
  intro w X μ vs hH hv
  refine (h w X μ vs hH hv).mono fun e w' he => ?_
  obtain ⟨v, r', H', fg, μ', e1, ⟨rfl, rfl⟩, g1, g2, g3, g4, g5, g6⟩ := he
  refine ⟨v, y, [], [], noMu, e1, ⟨rfl, rfl⟩, ⟨fun i l h => (by cases h), fun i j b m m' h => (by cases h), fun i b m h => (by cases h), fun i o h => (by simp at h), g1.xlt⟩, ?_, g3, fun i b m h => (by cases h), Nat.le_refl _, fun k x u hk hx => ?_⟩
  · refine (thaw_rv g1 4 ht hq g2).mono (fun b _ hb => ⟨?_, fun i hi m hm => ?_⟩) (fun _ _ _ => rfl) _ fun _ _ h => by cases h
    · rcases hb with hb | ⟨i, o, m, hi, _⟩
      · exact .inl hb
      · simp at hi
    · rcases hb with hb | ⟨i', o, m', hi', _⟩
      · exact (g1.lt i b m hm).2 hb
      · simp at hi'
  · have hk0 : k = 0 := by simpa using hk
    subst hk0
    have e0 : ∀ μ : Mu, upto 0 μ = noMu := fun μ => by funext i; simp [upto, noMu]
    rw [e0] at hx ⊢
    have hno : ∀ i, μ i = none := fun i => by
      cases hm : μ i with
      | none => rfl
      | some l => have := hH.dom i l hm; simp at this
    have := hx.mono (O' := OO X [] noMu) (w' := w') (fun b _ hb => hb.imp id fun ⟨i, o, m, hi, _⟩ => (by simp at hi)) (fun b hb _ => g3.block b hb fun i m hi => by rw [hno] at hi; cases hi) noMu fun _ _ h => h
    exact this
/-! lists in memory -/
variable {α : Type}
structure Enc (α : Type) where
  sz : Nat
  z : α
  enc : α → List AV
section
variable {α : Type} {e : Enc α}
abbrev fE (e : Enc α) (xs : List α) : Nat → List AV := fun k => e.enc (xs.getD k e.z)
abbrev slE (e : Enc α) (xs : List α) : AV := .sl e.sz xs.length false (fE e xs)
theorem fE_app {xs ys : List α} {n k : Nat} (hn : n = xs.length) (hk : k < n + ys.length) : fE e (xs ++ ys) k = appF n (fE e xs) (fE e ys) k := by
  subst hn
  unfold fE
  by_cases h : k < xs.length
  · rw [appF_lt h]; simp [List.getD_eq_getElem?_getD, List.getElem?_append_left h]
  · rw [appF_ge (by omega)]; simp [List.getD_eq_getElem?_getD, List.getElem?_append_right (show xs.length ≤ k by omega)]
theorem fE_snoc {xs : List α} {y : α} {g : Nat → List AV} {n k : Nat} (hn : n = xs.length) (hg : g 0 = e.enc y) (hk : k < n + 1) : fE e (xs ++ [y]) k = appF n (fE e xs) g k := by
  rw [fE_app hn (by simpa using hk)]
  by_cases h : k < n
  · rw [appF_lt h, appF_lt h]
  · rw [appF_ge (by omega), appF_ge (by omega)]
    have : k - n = 0 := by omega
    rw [this, hg]; rfl
theorem fE_lit {xs : List α} {css : List (List AV)} (h : css = xs.map e.enc) {k : Nat} (hk : k < xs.length) : fE e xs k = getC css k := by
  subst h
  simp [fE, getC, nth_eq, List.getD_eq_getElem?_getD, List.getElem?_eq_getElem hk]
theorem fE_lits {xs ys : List α} {css : List (List AV)} {n m k : Nat} (h : css = ys.map e.enc) (hn : n = xs.length) (hm : m = ys.length) (hk : k < n + m) : fE e (xs ++ ys) k = appF n (fE e xs) (getC css) k := by
  subst hm
  rw [fE_app hn hk]
  by_cases hlt : k < n
  · rw [appF_lt hlt, appF_lt hlt]
  · rw [appF_ge (by omega), appF_ge (by omega), fE_lit h (by omega)]
end
/-! calls and answers, told otherwise -/
theorem al_pcl (hw : wantA l σ o = some true) {fo : Operand} {ao : List Operand} {ts : Array TypeId} (ho : o.op = .call { callee := .value fo, args := ao.toArray, argTypes := ts }) {f : FuncId} {fa ca : List AV} (hf : σ.ev fo = .fn (.func f) fa ca) (hg : GoFn P f)
    {q : Prop} {args' args'' : List AV} {used : List Nat} (ht : thawL (thaw σ.H 4) (fa ++ ao.map σ.ev ++ ca) = some (q, args', used)) (hq : q) {x : AV} {N : List AObj} (h : APure P f args'' x N) (hl : LeS args' args'')
    (next : AL P r l Q R (St.put ⟨σ.s, share used 0 σ.H ++ N.map (renObj (sh σ.H.length)), σ.fg, σ.nb⟩ o.dst (ren (sh σ.H.length) 4 x))) : AL P r l Q (o :: R) σ := al_pc hw ho hf hg ht hq (h.le hl) next
theorem ad_pcl (hw : wantA l σ' o = some true) {fo : Operand} {ao : List Operand} {ts : Array TypeId} (ho : o.op = .call { callee := .value fo, args := ao.toArray, argTypes := ts }) {f : FuncId} {fa ca : List AV} (hf : σ'.ev fo = .fn (.func f) fa ca) (hg : GoFn P f)
    (hid : (fa ++ ao.map σ'.ev ++ ca).all (idfree 4) = true) {args'' : List AV} {x y : AV} {N : List AObj} {q : Prop} {used : List Nat} (h : APure P f args'' x N) (hl : LeS (fa ++ ao.map σ'.ev ++ ca) args'') (ht : thaw N 4 x = some (q, y, used)) (hq : q) (next : ADr P r l Q m σ R (σ'.put o.dst y)) : ADr P r l Q m σ (o :: R) σ' :=
  ad_call hw ho hf hg hid (h.le hl) ht hq next
theorem ret1 {rs : List ResultVar} {q : Prop} {x y : AV} {N : List AObj} (h : aRes tab σ rs = some (q, [y])) (hq : q) (ht : Tells ⟨[y], σ.H, σ.fg, σ.nb⟩ ⟨[x], N, σ.fg, σ.nb⟩) : RetP tab rs (fun r' H' _ => r' = x ∧ H' = N) .ret σ := retp h hq [x] N ht ⟨rfl, rfl⟩
theorem rett {rs : List ResultVar} {q : Prop} {l l' : List AV} {N : List AObj} (h : aRes tab σ rs = some (q, l)) (hq : q) (hl : resOf l' = .tup l') (ht : Tells ⟨l, σ.H, σ.fg, σ.nb⟩ ⟨l', N, σ.fg, σ.nb⟩) : RetP tab rs (fun r' H' _ => r' = .tup l' ∧ H' = N) .ret σ := retp h hq l' N ht ⟨hl, rfl⟩
theorem Tells.all {s : List AV} {H : List AObj} {fg : List Nat} {nb : YB} {s' : List AV} (hk : selOk [] nb.n = true) (hl : LeS (s.map (ren (idx []) 4)) s') : Tells ⟨s, H, fg, nb⟩ ⟨s', [], fg, nb⟩ := (Tells.sel [] rfl hk).trans (Tells.le hl .nil)
/-- A cut of a list. -/
theorem leCut {e : Enc α} {sz n : Nat} {lo hi : Option Int} {t t' : Bool} {xs ys : List α} (hn : n = xs.length) (hok : cutHi hi n ≤ n) (ht : t' = true → t = true) (hy : ys = (xs.take (cutHi hi n)).drop (cutLo lo)) :
    AV.Le (.sl sz (cutLen lo hi n) t (cutF lo (fE e xs))) (.sl sz ys.length t' (fE e ys)) := by
  subst hn hy
  refine .sl ?_ ht fun k hk => ?_
  · rw [cutLen_eq, List.length_drop, List.length_take, Nat.min_eq_left hok]
  · rw [cutLen_eq] at hk
    rw [cutF_eq]
    simp only [fE, List.getD_eq_getElem?_getD, List.getElem?_drop, List.getElem?_take]
    rw [if_pos (by omega)]
/-- append, and what the row's elements are from then on. -/
theorem al_app {q : Prop} {y : AV} {H' : List AObj} {id : Nat} {ob : AObj} {t : TypeId} {sx xx : Operand} (f' : Nat → List AV) (hT : TabOk P tab) (hw : wantA l σ o = some true) (ho : o.op = .call { callee := .builtin .append, args := #[sx, xx], argTypes := #[t, t] })
    (h : aAppend tab σ.H t (σ.ev sx) (σ.ev xx) = some (q, y, H', some id)) (hob : nth H' id = some ob) (hq : q) (hf : ∀ k, k < ob.n → f' k = ob.f k)
    (next : AL P r l Q R ((σ.behind (setn H' id { ob with f := f' }) (some id)).put o.dst y)) : AL P r l Q (o :: R) σ := by
  refine al_append hT hw ho h hq ?_
  refine al_tell (σ' := (σ.behind (setn H' id { ob with f := f' }) (some id)).put o.dst y) ?_ next
  cases hd : o.dst <;> exact Tells.objf id f' hob hf
end Go.Proofs.Ythdckgcalooipaa
