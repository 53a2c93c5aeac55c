/- More of the walk: conditions by what they say; guards by cases; whole regions drawn; slots that code writes; lists in memory by an encoding. -/
import Derived.Test.YthcoccoanpmhgaaDoorABridge
import Derived.Test.YthcoccoanpmhgaaDoorADrawL
import Derived.Test.YthcoccoanpmhgaaDoorADrawO
namespace Go.Proofs.YthcoccoanpmhgaaDoor
open Go.RowKit
set_option linter.unusedVariables false
set_option linter.unusedSimpArgs false
set_option linter.unusedSectionVars false
variable {P : Program} {tab : Tab} {r : Option Nat} {l R : List Oper} {Q : Exit → St → Prop} {σ σ' : St} {o : Oper} {m : Nat}
/-- What a bool says. -/
class BoolP (b : Bool) (p : outParam Prop) : Prop where
  iff : b = true ↔ p
instance (priority := low) boolP_var (b : Bool) : BoolP b (b = true) := ⟨Iff.rfl⟩
instance boolP_dec (p : Prop) [h : Decidable p] : BoolP (decide p) p := ⟨decide_eq_true_iff⟩
instance boolP_beqI (a b : Int) : BoolP (a == b) (a = b) := ⟨beq_iff_eq⟩
instance boolP_bneI (a b : Int) : BoolP (a != b) (a ≠ b) := ⟨bne_iff_ne⟩
instance boolP_beqB (a b : List UInt8) : BoolP (a == b) (a = b) := ⟨beq_iff_eq⟩
instance boolP_beqC (a b : Bool) : BoolP (a == b) (a = b) := ⟨beq_iff_eq⟩
instance boolP_not (b : Bool) (p : Prop) [h : BoolP b p] : BoolP (!b) (¬ p) := ⟨by rw [← h.iff]; cases b <;> simp⟩
instance boolP_and (a b : Bool) (p q : Prop) [h : BoolP a p] [h' : BoolP b q] : BoolP (a && b) (p ∧ q) := ⟨by rw [← h.iff, ← h'.iff]; simp⟩
instance boolP_or (a b : Bool) (p q : Prop) [h : BoolP a p] [h' : BoolP b q] : BoolP (a || b) (p ∨ q) := ⟨by rw [← h.iff, ← h'.iff]; simp⟩
theorem BoolP.no {b : Bool} {p : Prop} (h : BoolP b p) : b = false ↔ ¬ p := by rw [← h.iff]; cases b <;> simp
theorem aw_if {c : Operand} {x y : Code} {b : Bool} {p : Prop} (hc : σ.ev c = .lit (.bool b)) [hb : BoolP b p] (ht : p → AW P r x Q σ) (hf : ¬ p → AW P r y Q σ) : AW P r (.cond c x y) Q σ :=
  aw_cond hc (fun h => ht (hb.iff.1 h)) (fun h => hf (hb.no.1 h))
theorem aw_ift {c : Operand} {x y : Code} {b : Bool} {p : Prop} (hc : σ.ev c = .lit (.bool b)) [hb : BoolP b p] (hp : p) (ht : AW P r x Q σ) : AW P r (.cond c x y) Q σ :=
  aw_if hc (fun _ => ht) (fun h => (h hp).elim)
theorem aw_iff {c : Operand} {x y : Code} {b : Bool} {p : Prop} (hc : σ.ev c = .lit (.bool b)) [hb : BoolP b p] (hp : ¬ p) (hf : AW P r y Q σ) : AW P r (.cond c x y) Q σ :=
  aw_if hc (fun h => (hp h).elim) (fun _ => hf)
/-- The slot on which an operation's guard looks. -/
def gslot (l : List Oper) (o : Oper) : Option Nat :=
  match o.guard with
  | some (j, _) => match nth l j with
    | some oj => oj.dst
    | none => none
  | none => none
theorem setn_self {α : Type} : ∀ {l : List α} {n : Nat} {y : α}, nth l n = some y → setn l n y = l
  | [], _, _, h => by cases h
  | x :: l, 0, y, h => by simp only [nth, Option.some.injEq] at h; rw [setn, h]
  | x :: l, n + 1, y, h => by rw [setn, setn_self (l := l) h]
theorem al_if {t : Nat} {b : Bool} {p : Prop} (hg : gslot l o = some t) (hs : nth σ.s t = some (.lit (.bool b))) [hb : BoolP b p] (ht : p → AL P r l Q (o :: R) ⟨setn σ.s t (.lit (.bool true)), σ.H, σ.fg, σ.nb⟩)
    (hf : ¬ p → AL P r l Q (o :: R) ⟨setn σ.s t (.lit (.bool false)), σ.H, σ.fg, σ.nb⟩) : AL P r l Q (o :: R) σ := by
  cases hv : b with
  | true => subst hv; have := ht (hb.iff.1 rfl); rwa [setn_self hs] at this
  | false => subst hv; have := hf (hb.no.1 rfl); rwa [setn_self hs] at this
theorem ad_if {t : Nat} {b : Bool} {p : Prop} (hg : gslot l o = some t) (hs : nth σ'.s t = some (.lit (.bool b))) [hb : BoolP b p] (ht : p → ADr P r l Q m σ (o :: R) ⟨setn σ'.s t (.lit (.bool true)), σ'.H, σ'.fg, σ'.nb⟩)
    (hf : ¬ p → ADr P r l Q m σ (o :: R) ⟨setn σ'.s t (.lit (.bool false)), σ'.H, σ'.fg, σ'.nb⟩) : ADr P r l Q m σ (o :: R) σ' := by
  cases hv : b with
  | true => subst hv; have := ht (hb.iff.1 rfl); rwa [setn_self hs] at this
  | false => subst hv; have := hf (hb.no.1 rfl); rwa [setn_self hs] at this
theorem al_litt {t : Nat} (hg : gslot l o = some t) (hs : nth σ.s t = some (.lit (.bool true))) (h : AL P r l Q (o :: R) σ) : AL P r l Q (o :: R) σ := h
theorem al_litf {t : Nat} (hg : gslot l o = some t) (hs : nth σ.s t = some (.lit (.bool false))) (h : AL P r l Q (o :: R) σ) : AL P r l Q (o :: R) σ := h
theorem ad_litt {t : Nat} (hg : gslot l o = some t) (hs : nth σ'.s t = some (.lit (.bool true))) (h : ADr P r l Q m σ (o :: R) σ') : ADr P r l Q m σ (o :: R) σ' := h
theorem ad_litf {t : Nat} (hg : gslot l o = some t) (hs : nth σ'.s t = some (.lit (.bool false))) (h : ADr P r l Q m σ (o :: R) σ') : ADr P r l Q m σ (o :: R) σ' := h
theorem al_ift {t : Nat} {b : Bool} {p : Prop} (hg : gslot l o = some t) (hs : nth σ.s t = some (.lit (.bool b))) [hb : BoolP b p] (hp : p) (ht : AL P r l Q (o :: R) ⟨setn σ.s t (.lit (.bool true)), σ.H, σ.fg, σ.nb⟩) : AL P r l Q (o :: R) σ := al_if hg hs (fun _ => ht) (fun h => (h hp).elim)
theorem al_iff {t : Nat} {b : Bool} {p : Prop} (hg : gslot l o = some t) (hs : nth σ.s t = some (.lit (.bool b))) [hb : BoolP b p] (hp : ¬ p) (ht : AL P r l Q (o :: R) ⟨setn σ.s t (.lit (.bool false)), σ.H, σ.fg, σ.nb⟩) : AL P r l Q (o :: R) σ := al_if hg hs (fun h => (hp h).elim) (fun _ => ht)
theorem ad_ift {t : Nat} {b : Bool} {p : Prop} (hg : gslot l o = some t) (hs : nth σ'.s t = some (.lit (.bool b))) [hb : BoolP b p] (hp : p) (ht : ADr P r l Q m σ (o :: R) ⟨setn σ'.s t (.lit (.bool true)), σ'.H, σ'.fg, σ'.nb⟩) : ADr P r l Q m σ (o :: R) σ' := ad_if hg hs (fun _ => ht) (fun h => (h hp).elim)
theorem ad_iff {t : Nat} {b : Bool} {p : Prop} (hg : gslot l o = some t) (hs : nth σ'.s t = some (.lit (.bool b))) [hb : BoolP b p] (hp : ¬ p) (ht : ADr P r l Q m σ (o :: R) ⟨setn σ'.s t (.lit (.bool false)), σ'.H, σ'.fg, σ'.nb⟩) : ADr P r l Q m σ (o :: R) σ' := ad_if hg hs (fun h => (hp h).elim) (fun _ => ht)
/-- A slot's bool, known otherwise. -/
theorem ad_eq {σ'' : St} (h : σ' = σ'') (n : ADr P r l Q m σ R σ'') : ADr P r l Q m σ R σ' := h ▸ n
/-! a region that draws its order, all of it -/
theorem aw_drawall (hm : P.follows .mixedOrders = true) {id : Nat} {l : List Oper} {b : Bool} (hb : b = true) (hok : okD l l.length = true) (hnd : l.all nDefer = true) (h : ADr P r l Q l.length σ l σ) : AW P r (.region id l.toArray b) Q σ := by
  subst hb
  exact aw_drawr hm l.length hok hnd (by rwa [List.take_length])
theorem ad_endall (h : AL P r l Q [] σ') : ADr P r l Q l.length σ [] σ' := ad_end (by rwa [List.drop_length])
/-- The first operations, as far as none of them writes. -/
def isDraw : Op → Bool
  | .store .. => false
  | .call c => match c.callee with | .builtin .append => false | _ => true
  | _ => true
def takeD : List Oper → List Oper
  | [] => []
  | o :: l => bif isDraw o.op then o :: takeD l else []
def dropD : List Oper → List Oper
  | [] => []
  | o :: l => bif isDraw o.op then dropD l else o :: l
theorem takeD_take : ∀ l : List Oper, l.take (takeD l).length = takeD l
  | [] => rfl
  | o :: l => by rw [takeD]; cases isDraw o.op <;> simp [takeD_take l]
theorem dropD_drop : ∀ l : List Oper, l.drop (takeD l).length = dropD l
  | [] => rfl
  | o :: l => by rw [takeD, dropD]; cases isDraw o.op <;> simp [dropD_drop l]
theorem aw_drawp (hm : P.follows .mixedOrders = true) {id : Nat} {l : List Oper} {b : Bool} (hb : b = true) (hok : okD l (takeD l).length = true) (hnd : l.all nDefer = true) (h : ADr P r l Q (takeD l).length σ (takeD l) σ) : AW P r (.region id l.toArray b) Q σ := by
  subst hb
  exact aw_drawr hm (takeD l).length hok hnd (by rwa [takeD_take])
theorem aw_drawpL {Q : Exit → St → Prop} [np : NoPanic Q] (hm : P.follows .mixedOrders = true) {id : Nat} {l : List Oper} {b : Bool} (hb : b = true) (hok : okDL l (takeD l).length = true) (hnd : l.all nDefer = true) (h : ADr P none l Q (takeD l).length σ (takeD l) σ) : AW P none (.region id l.toArray b) Q σ := by
  subst hb
  exact aw_drawrL np.no hm (takeD l).length hok hnd (by rwa [takeD_take])
theorem ad_endp (h : AL P r l Q (dropD l) σ') : ADr P r l Q (takeD l).length σ [] σ' := ad_end (by rwa [dropD_drop])
/-! slots that code writes -/
def dstsL : List Oper → List Nat
  | [] => []
  | o :: r => match o.dst with | some d => d :: dstsL r | none => dstsL r
def wrC : Code → List Nat
  | .region _ ops _ => dstsL ops.toList
  | .seq a b => wrC a ++ wrC b
  | .cond _ a b => wrC a ++ wrC b
  | .block _ b => wrC b
  | .loop b => wrC b
  | .scope b => wrC b
  | .rangeFunc _ ps a b => ps.toList ++ wrC a ++ wrC b
  | _ => []
theorem aw_loopA {c : Code} {ι : Type} {s : List AV} {H0 : List AObj} {fg : List Nat} {nb : YB} {ws : List Nat} (hws : wrC c = ws) (g : ι → List (Nat × AV)) (Hs : ι → List AObj) (m : ι → Nat) (i0 : ι) (h0 : Tells ⟨s, H0, fg, nb⟩ (lst s fg nb ws (g i0) (Hs i0)))
    (round : ∀ i, AW P r c (Then (fun σ' => ∃ j, m j < m i ∧ Tells σ' (lst s fg nb ws (g j) (Hs j))) Q) (lst s fg nb ws (g i) (Hs i))) : AW P r (.loop c) Q ⟨s, H0, fg, nb⟩ := aw_loopw ws g Hs m i0 h0 round
/-- Where branches meet. -/
theorem aw_joinw {x y : Code} {Q' : Exit → St → Prop} {s : List AV} {H0 : List AObj} {fg : List Nat} {nb : YB} {ws : List Nat} (hws : wrC x = ws) (g : List (Nat × AV)) (H1 : List AObj)
    (h1 : AW P r x (Then (fun σ' => Tells σ' (lst s fg nb ws g H1)) Q') ⟨s, H0, fg, nb⟩) (h2 : AW P r y Q (lst s fg nb ws g H1)) : AW P r x (Then (AW P r y Q) Q') ⟨s, H0, fg, nb⟩ :=
  h1.mono fun e σ' h => by
    cases e <;> first | exact aw_tell h h2 | exact h
/-! a row that a function makes, read as data -/
theorem APure.data {f : FuncId} {args : List AV} {x y : AV} {N : List AObj} {q : Prop} {used : List Nat} (h : APure P f args x N) (ht : thaw N 4 x = some (q, y, used)) (hq : q) : APure P f args y [] := by
  intro w X μ vs hH hv
  refine (h w X μ vs hH hv).mono fun e w' he => ?_
  obtain ⟨v, r', H', fg, μ', e1, ⟨rfl, rfl⟩, g1, g2, g3, g4, g5, g6⟩ := he
  refine ⟨v, y, [], [], noMu, e1, ⟨rfl, rfl⟩, ⟨fun i l h => (by cases h), fun i j b m m' h => (by cases h), fun i b m h => (by cases h), fun i o h => (by simp at h), g1.xlt, g1.gl.sub fun b ⟨i, m, h⟩ => (by cases h)⟩, ?_, g3, fun i b m h => (by cases h), Nat.le_refl _, fun k x u hk hx => ?_⟩
  · refine (thaw_rv g1 4 ht hq g2).mono (fun b _ hb => ⟨?_, fun i hi m hm => ?_⟩) (fun _ _ _ => rfl) _ fun _ _ h => by cases h
    · rcases hb with hb | ⟨i, o, m, hi, _⟩
      · exact .inl hb
      · simp at hi
    · rcases hb with hb | ⟨i', o, m', hi', _⟩
      · exact (g1.lt i b m hm).2 hb
      · simp at hi'
  · have hk0 : k = 0 := by simpa using hk
    subst hk0
    have e0 : ∀ μ : Mu, upto 0 μ = noMu := fun μ => by funext i; simp [upto, noMu]
    rw [e0] at hx ⊢
    have hno : ∀ i, μ i = none := fun i => by
      cases hm : μ i with
      | none => rfl
      | some l => have := hH.dom i l hm; simp at this
    have := hx.mono (O' := OO X [] noMu) (w' := w') (fun b _ hb => hb.imp id fun ⟨i, o, m, hi, _⟩ => (by simp at hi)) (fun b hb _ => g3.block b hb fun i m hi => by rw [hno] at hi; cases hi) noMu fun _ _ h => h
    exact this
/-! lists in memory -/
variable {α : Type}
structure Enc (α : Type) where
  sz : Nat
  z : α
  enc : α → List AV
section
variable {α : Type} {e : Enc α}
abbrev fE (e : Enc α) (xs : List α) : Nat → List AV := fun k => e.enc (xs.getD k e.z)
abbrev slE (e : Enc α) (xs : List α) : AV := .sl e.sz xs.length false (fE e xs)
theorem fE_app {xs ys : List α} {n k : Nat} (hn : n = xs.length) (hk : k < n + ys.length) : fE e (xs ++ ys) k = appF n (fE e xs) (fE e ys) k := by
  subst hn
  unfold fE
  by_cases h : k < xs.length
  · rw [appF_lt h]; simp [List.getD_eq_getElem?_getD, List.getElem?_append_left h]
  · rw [appF_ge (by omega)]; simp [List.getD_eq_getElem?_getD, List.getElem?_append_right (show xs.length ≤ k by omega)]
theorem fE_snoc {xs : List α} {y : α} {g : Nat → List AV} {n k : Nat} (hn : n = xs.length) (hg : g 0 = e.enc y) (hk : k < n + 1) : fE e (xs ++ [y]) k = appF n (fE e xs) g k := by
  rw [fE_app hn (by simpa using hk)]
  by_cases h : k < n
  · rw [appF_lt h, appF_lt h]
  · rw [appF_ge (by omega), appF_ge (by omega)]
    have : k - n = 0 := by omega
    rw [this, hg]; rfl
theorem fE_lit {xs : List α} {css : List (List AV)} (h : css = xs.map e.enc) {k : Nat} (hk : k < xs.length) : fE e xs k = getC css k := by
  subst h
  simp [fE, getC, nth_eq, List.getD_eq_getElem?_getD, List.getElem?_eq_getElem hk]
theorem fE_lits {xs ys : List α} {css : List (List AV)} {n m k : Nat} (h : css = ys.map e.enc) (hn : n = xs.length) (hm : m = ys.length) (hk : k < n + m) : fE e (xs ++ ys) k = appF n (fE e xs) (getC css) k := by
  subst hm
  rw [fE_app hn hk]
  by_cases hlt : k < n
  · rw [appF_lt hlt, appF_lt hlt]
  · rw [appF_ge (by omega), appF_ge (by omega), fE_lit h (by omega)]
end
theorem AV.Le.bool {a b : Bool} (h : a = b) : AV.Le (.lit (.bool a)) (.lit (.bool b)) := .lit (by rw [h])
theorem thawL_id {th : AV → Option (Prop × AV × List Nat)} : ∀ {l : List AV}, (∀ a ∈ l, ∃ q, th a = some (q, a, []) ∧ q) → ∃ q, thawL th l = some (q, l, []) ∧ q
  | [], _ => ⟨True, rfl, trivial⟩
  | a :: l, h => by
    obtain ⟨q, h1, h2⟩ := h a (List.mem_cons_self ..)
    obtain ⟨q', h3, h4⟩ := thawL_id (l := l) fun x hx => h x (List.mem_cons_of_mem _ hx)
    exact ⟨q ∧ q', by rw [thawL, h1, h3]; rfl, h2, h4⟩
theorem thaw_id (H : List AObj) : ∀ (n : Nat) {a : AV}, idfree n a = true → ∃ q, thaw H n a = some (q, a, []) ∧ q
  | 0, a, h => by cases h
  | n + 1, a, h => by
    cases a with
    | row => cases h
    | ptr => cases h
    | junk => exact ⟨True, rfl, trivial⟩
    | lit => exact ⟨True, rfl, trivial⟩
    | arr => exact ⟨True, rfl, trivial⟩
    | sl => exact ⟨True, rfl, trivial⟩
    | ip => exact ⟨True, rfl, trivial⟩
    | agg cs =>
      obtain ⟨q, h1, h2⟩ := thawL_id (th := thaw H n) (l := cs) fun x hx => thaw_id H n (List.all_eq_true.1 h x hx)
      exact ⟨q, by rw [thaw, h1], h2⟩
    | tup cs =>
      obtain ⟨q, h1, h2⟩ := thawL_id (th := thaw H n) (l := cs) fun x hx => thaw_id H n (List.all_eq_true.1 h x hx)
      exact ⟨q, by rw [thaw, h1], h2⟩
    | fn f xs ys =>
      rw [idfree, Bool.and_eq_true] at h
      obtain ⟨q, h1, h2⟩ := thawL_id (th := thaw H n) (l := xs) fun x hx => thaw_id H n (List.all_eq_true.1 h.1 x hx)
      obtain ⟨q', h3, h4⟩ := thawL_id (th := thaw H n) (l := ys) fun x hx => thaw_id H n (List.all_eq_true.1 h.2 x hx)
      exact ⟨q ∧ q', by rw [thaw, h1, h3]; rfl, h2, h4⟩
    | iface t x =>
      obtain ⟨q, h1, h2⟩ := thaw_id H n (a := x) h
      exact ⟨q, by rw [thaw, h1], h2⟩
theorem share_none : ∀ (k : Nat) (l : List AObj), share [] k l = l
  | _, [] => rfl
  | k, o :: l => by rw [share, share_none]; rfl
theorem idfree_up : ∀ (n : Nat) {a : AV}, idfree n a = true → idfree (n + 1) a = true
  | 0, a, h => by cases h
  | n + 1, a, h => by
    cases a with
    | row => cases h
    | ptr => cases h
    | junk | lit | arr | sl | ip => rfl
    | agg cs | tup cs => exact List.all_eq_true.2 fun x hx => idfree_up n (List.all_eq_true.1 h x hx)
    | fn f xs ys =>
      rw [idfree, Bool.and_eq_true] at h ⊢
      exact ⟨List.all_eq_true.2 fun x hx => idfree_up n (List.all_eq_true.1 h.1 x hx), List.all_eq_true.2 fun x hx => idfree_up n (List.all_eq_true.1 h.2 x hx)⟩
    | iface t x => exact idfree_up n (a := x) h
theorem idfrees_up {n : Nat} {l : List AV} (h : l.all (idfree n) = true) : l.all (idfree (n + 1)) = true := List.all_eq_true.2 fun x hx => idfree_up n (List.all_eq_true.1 h x hx)
theorem LeS.id {a b : List AV} (h : LeS a b) : LeS a b := h
theorem LeS.app : ∀ {a b : List AV} (c : List AV), LeS a b → LeS (a ++ c) (b ++ c)
  | _, _, c, .nil => LeS.refl c
  | _, _, c, .cons h hs => .cons h (LeS.app c hs)
/-- A call whose arguments name nothing of one's own. -/
theorem al_pci (hw : wantA l σ o = some true) {fo : Operand} {ao : List Operand} {ts : Array TypeId} (ho : o.op = .call { callee := .value fo, args := ao.toArray, argTypes := ts }) {f : FuncId} {fa ca : List AV} (hf : σ.ev fo = .fn (.func f) fa ca) (hg : GoFn P f)
    (hid : (fa ++ ao.map σ.ev).all (idfree 4) = true) (hic : ca.all (idfree 4) = true) {args'' : List AV} {x : AV} {N : List AObj} (h : APure P f (args'' ++ ca) x N) (hl : LeS (fa ++ ao.map σ.ev) args'')
    (next : AL P r l Q R (St.put ⟨σ.s, σ.H ++ N.map (renObj (sh σ.H.length)), σ.fg, σ.nb⟩ o.dst (ren (sh σ.H.length) 4 x))) : AL P r l Q (o :: R) σ := by
  obtain ⟨q, h1, h2⟩ := thawL_id (th := thaw σ.H 4) (l := fa ++ ao.map σ.ev ++ ca) fun x hx => thaw_id σ.H 4 (by
    rcases List.mem_append.1 hx with hx | hx
    · exact List.all_eq_true.1 hid x hx
    · exact List.all_eq_true.1 hic x hx)
  exact al_pc hw ho hf hg h1 h2 (h.le (hl.app ca)) (by rw [share_none]; exact next)
theorem LeS.rvs {O : Nat → Prop} {w : World} {μ : Mu} {a b : List AV} (h : LeS a b) {vs : List Value} (hv : RVs O w μ a vs) : RVs O w μ b vs :=
  ⟨h.len ▸ hv.1, fun j y v hy hj => by
    obtain ⟨x, hx, hl⟩ := h.at_ hy
    exact hl _ _ _ _ (hv.2 j x v hx hj)⟩
theorem AV.Le.agg {cs ds : List AV} (h : LeS cs ds) : AV.Le (.agg cs) (.agg ds) := fun O w μ v hv => by
  cases hv with
  | agg h1 h2 =>
    have := h.rvs (show RVs O w μ cs _ from ⟨h1, h2⟩)
    exact .agg this.1 this.2
theorem AV.Le.ip {cs ds : List AV} (h : LeS cs ds) : AV.Le (.ip cs) (.ip ds) := fun O w μ v hv => by
  cases hv with
  | ip h1 h2 hg hl hA =>
    have := h.rvs (show RVs O w noMu cs _ from ⟨h1, h2⟩)
    exact .ip this.1 this.2 hg hl hA
theorem ObjLe.les {T sz n n' st : Nat} {f f' : Nat → List AV} {p bx bx' : Bool} (hn : n' ≤ n) (h : ∀ k, k < n' → LeS (f k) (f' k)) : ObjLe ⟨T, sz, n, f, st, p, bx⟩ ⟨T, sz, n', f', st, p, bx'⟩ :=
  ⟨Nat.le_refl _, fun _ => rfl, fun _ => rfl, fun _ => hn, fun _ h => h, fun _ k hk => .inr ⟨(h k hk).len.symm, fun j x y hx hy => by
    obtain ⟨x', hx', hl⟩ := (h k hk).at_ hy
    rw [hx] at hx'; injection hx' with hx'; subst hx'; exact hl⟩⟩
theorem reta {rs : List ResultVar} {K : AV → List AObj → List Nat → Prop} {q : Prop} {y x : AV} {H' : List AObj} (h : aRes tab σ rs = some (q, [y])) (hq : q) (hk : K x H' σ.fg) (ht : Tells ⟨[y], σ.H, σ.fg, σ.nb⟩ ⟨[x], H', σ.fg, σ.nb⟩) : RetP tab rs K .ret σ := retp h hq [x] H' ht hk
theorem al_callg (hw : wantA l σ o = some true) {fo : Operand} {ao : List Operand} {ts : Array TypeId} (ho : o.op = .call { callee := .value fo, args := ao.toArray, argTypes := ts }) {f : FuncId} {fa ca : List AV} (hf : σ.ev fo = .fn (.func f) fa ca) (hg : GoFn P f)
    {x : AV} {H' : List AObj} (h : ACall P f (fa ++ ao.map σ.ev ++ ca) σ.H fun r H1 fg => r = x ∧ H1 = H' ∧ fg = [])
    (next : AL P r l Q R (St.put ⟨σ.s, H', σ.fg, σ.nb⟩ o.dst x)) : AL P r l Q (o :: R) σ := by
  obtain ⟨fn, c, h1, h2, h3⟩ := hg
  refine al_call hw ho hf h1 h2 h3 h fun x H' fg hk => ?_
  obtain ⟨rfl, rfl, rfl⟩ := hk
  have e : σ.s.map (fgs (fgk σ.H.length [])) = σ.s := by
    have : (fgs (fgk σ.H.length [])) = id := by funext a; rfl
    rw [this, List.map_id]
  rw [e, show fgk σ.nb.n [] = [] from rfl, List.append_nil]
  exact next
theorem map_getC (g : AV → AV) (css : List (List AV)) (k : Nat) : (getC css k).map g = getC (css.map (List.map g)) k := by
  unfold getC
  rw [nth_eq, nth_eq, List.getElem?_map]
  cases css[k]? <;> rfl
/-- Rows in a variable that are handed out: nobody writes them any more. -/
theorem tells_thawObj (i : Nat) {ob : AObj} {cs : List AV} {q : Prop} {used : List Nat} (ho : nth σ.H i = some ob) (hn : ob.n = 1) (hst : ob.st < 2) (h : thawL (thaw σ.H 4) (ob.f 0) = some (q, cs, used)) (hq : q) :
    Tells σ ⟨σ.s, share used 0 (setn σ.H i { ob with f := fun _ => cs, pure := true }), σ.fg, σ.nb⟩ := by
  intro P B μ a w hr
  rw [nth_eq] at ho
  rw [setn_eq]
  have hil : i < σ.H.length := (List.getElem?_eq_some_iff.1 ho).1
  have hset : ∀ (k : Nat) o, (σ.H.set i { ob with f := fun _ => cs, pure := true })[k]? = some o → ∃ o1, σ.H[k]? = some o1 ∧ o.st = o1.st := fun k o hk => by
    by_cases he : i = k
    · subst he; rw [List.getElem?_set_self hil] at hk; injection hk with hk; subst hk; exact ⟨ob, ho, rfl⟩
    · rw [List.getElem?_set_ne he] at hk; exact ⟨o, hk, rfl⟩
  have hoo : ∀ b, OO B.X (share used 0 (σ.H.set i { ob with f := fun _ => cs, pure := true })) μ b → Less (OO B.X σ.H μ) μ used b := by
    rintro b (hb | ⟨k, o, m, hi, hs, hm⟩)
    · exact ⟨.inl hb, fun i _ m hm => (hr.H.lt i b m hm).2 hb⟩
    · rw [share_at] at hi
      simp only [Option.map_eq_some_iff, Nat.zero_add] at hi
      obtain ⟨o1, h1, h2⟩ := hi
      obtain ⟨o2, h3, h4⟩ := hset k o1 h1
      have hnu : used.any (Nat.beq k) = false := by
        cases hc : used.any (Nat.beq k) with
        | false => rfl
        | true => rw [hc] at h2; simp only at h2; rw [← h2] at hs; simp at hs <;> omega
      rw [hnu] at h2
      simp only at h2
      subst h2
      refine ⟨.inr ⟨k, o2, m, h3, h4 ▸ hs, hm⟩, fun k' hk m' hm' => ?_⟩
      have := hr.H.inj _ _ _ _ _ hm hm'
      subst this
      have : used.any (Nat.beq k) = true := List.any_eq_true.2 ⟨k, hk, by simp⟩
      rw [hnu] at this; cases this
  have up : ∀ {ν : Mu} {a : AV} {v : Value}, RV (OO B.X σ.H μ) w ν a v → RV (OO B.X (share used 0 (σ.H.set i { ob with f := fun _ => cs, pure := true })) μ) w ν a v := fun h => h.mono (fun b _ hb => (hoo b hb).1) (fun _ _ _ => rfl) _ fun _ _ h => h
  refine ⟨μ, hr.size, fun k z v hz hv => up (hr.slot k z v hz hv), ⟨fun i l hi => by simp only [share_len, List.length_set]; exact hr.H.dom i l hi, hr.H.inj, hr.H.lt, fun k o hi hs => ?_, hr.H.xlt, hr.H.gl⟩, hr.df, hr.chg, hr.ext, hr.nb, by simp only [share_len, List.length_set]; exact hr.le, fun k z v hk hz => up (hr.pres k z v hk hz)⟩
  simp only [share_at, Option.map_eq_some_iff, Nat.zero_add] at hi
  obtain ⟨o1, h1, h2⟩ := hi
  have hfin : ObjAt (OO B.X (share used 0 (σ.H.set i { ob with f := fun _ => cs, pure := true })) μ) w μ k o1 := by
    by_cases he : i = k
    · subst he
      rw [List.getElem?_set_self hil] at h1
      injection h1 with h1
      have hat := hr.H.obj i ob ho hst
      obtain ⟨hz, hc⟩ := hat
      rcases hc with ⟨_, h0⟩ | ⟨b, m, cur, e1, e2⟩
      · omega
      · obtain ⟨vs, g1, g2, g3, _⟩ := elem_cells hz e2 (k := 0) (by omega)
        have g5 := thawL_rv (fun h hq => thaw_rv hr.H 4 h hq) h hq g1.opt
        have hle : 1 ≤ m := by have := e2.nle; omega
        subst h1
        refine ⟨hz, .inr ⟨b, m, cur, e1, ⟨e2.blk, e2.size, e2.le, e2.nle, e2.one, fun k hk => by simp only; rw [g5.1, g2], fun k j a v hk ha hv => ?_⟩⟩⟩
        have hk : k < ob.n := hk
        obtain rfl : k = 0 := by omega
        have hj : j < vs.length := by rw [← g5.1]; exact (List.getElem?_eq_some_iff.1 ha).1
        have hv' := g3 j _ (List.getElem?_eq_getElem hj)
        simp only at hv
        rw [hv'] at hv
        injection hv with hv
        subst hv
        exact (g5.2 j a _ ha (List.getElem?_eq_getElem hj)).mono (fun b _ hb => hoo b hb) (fun _ _ _ => rfl) _ fun _ _ h => h
    · rw [List.getElem?_set_ne he] at h1
      have hst' : o1.st < 2 := by
        split at h2 <;> rw [← h2] at hs
        · simp at hs; omega
        · exact hs
      exact (hr.H.obj k o1 h1 hst').mono (fun b _ hb => (hoo b hb).1) (fun _ _ _ => rfl) (fun _ _ h => h) fun _ _ _ => rfl
  split at h2 <;> rw [← h2]
  · obtain ⟨hz, hc⟩ := hfin
    exact ⟨hz, hc.imp (fun h => h) fun ⟨b, m, cur, e1, e2⟩ => ⟨b, m, cur, e1, ⟨e2.blk, e2.size, e2.le, e2.nle, e2.one, e2.flen, e2.cell⟩⟩⟩
  · exact hfin
/-! what a state's parts come to -/
theorem idf_lit (n : Nat) (x : Value) : idfree (n + 1) (.lit x) = true := rfl
theorem idf_lit4 (x : Value) : idfree 4 (.lit x) = true := rfl
theorem idf_sl4 (a b : Nat) (t : Bool) (f : Nat → List AV) : idfree 4 (.sl a b t f) = true := rfl
theorem idf_ip4 (c : List AV) : idfree 4 (.ip c) = true := rfl
theorem idf_arr4 (a b : Nat) (f : Nat → List AV) : idfree 4 (.arr a b f) = true := rfl
theorem idf_row4 (a b c d : Nat) (e : Option Nat) : idfree 4 (.row a b c d e) = false := rfl
theorem idf_ptr4 (a b c d : Nat) : idfree 4 (.ptr a b c d) = false := rfl
theorem idf_fn4 (f : Fn) (a b : List AV) : idfree 4 (.fn f a b) = (a.all (idfree 3) && b.all (idfree 3)) := rfl
theorem idf_lit3 (x : Value) : idfree 3 (.lit x) = true := rfl
theorem idf_sl3 (a b : Nat) (t : Bool) (f : Nat → List AV) : idfree 3 (.sl a b t f) = true := rfl
theorem idf_ip3 (c : List AV) : idfree 3 (.ip c) = true := rfl
theorem idf_row3 (a b c d : Nat) (e : Option Nat) : idfree 3 (.row a b c d e) = false := rfl
theorem idf_ptr3 (a b c d : Nat) : idfree 3 (.ptr a b c d) = false := rfl
theorem fgo_t (id T sz n st : Nat) (f : Nat → List AV) (b : Bool) : forgetObj id ⟨T, sz, n, f, st, true, b⟩ = ⟨T, sz, n, f, st, true, b⟩ := rfl
theorem fgo_f (id T sz n st : Nat) (f : Nat → List AV) (b : Bool) : forgetObj id ⟨T, sz, n, f, st, false, b⟩ = ⟨T, sz, n, fun k => (f k).map (forget id 4), st, false, b⟩ := rfl
theorem reno_t (g : Nat → Option Nat) (T sz n st : Nat) (f : Nat → List AV) (b : Bool) : renObj g ⟨T, sz, n, f, st, true, b⟩ = ⟨T, sz, n, f, st, true, b⟩ := rfl
theorem reno_f (g : Nat → Option Nat) (T sz n st : Nat) (f : Nat → List AV) (b : Bool) : renObj g ⟨T, sz, n, f, st, false, b⟩ = ⟨T, sz, n, fun k => (f k).map (ren g 4), st, false, b⟩ := rfl
theorem nbeq (a b : Nat) : Nat.beq a b = (a == b) := by rw [Bool.eq_iff_iff, beq_iff_eq]; exact Nat.beq_eq ▸ Iff.rfl
/-! no slice is longer than memory allows -/
def lensA : Nat → AV → Prop
  | 0, _ => True
  | n + 1, a => match a with
    | .sl _ k _ _ => k ≤ 9223372036854775807
    | .agg cs => ∀ c ∈ cs, lensA n c
    | _ => True
theorem lensA_rv {O : Nat → Prop} {w : World} : ∀ (n : Nat) {μ : Mu} {a : AV} {v : Value}, RV O w μ a v → lensA n a
  | 0, _, _, _, _ => trivial
  | n + 1, μ, a, v, h => by
    cases h with
    | sl ho hc hm ht h1 h2 h hz hA => exact Nat.le_trans hc (Nat.le_trans hm (by decide))
    | agg h1 h =>
      intro c hc
      obtain ⟨j, hj⟩ := List.mem_iff_getElem?.1 hc
      have hlt := (List.getElem?_eq_some_iff.1 hj).1
      exact lensA_rv n (h j c _ hj (List.getElem?_eq_getElem (by omega)))
    | _ => exact trivial
theorem apure_lens {f : FuncId} {args : List AV} {x : AV} {N : List AObj} (h : (∀ a ∈ args, lensA 3 a) → APure P f args x N) : APure P f args x N := fun w X μ vs hH hv =>
  h (fun a ha => by
    obtain ⟨j, hj⟩ := List.mem_iff_getElem?.1 ha
    obtain ⟨v, _, hr⟩ := hv.at_ hj
    exact lensA_rv 3 hr) w X μ vs hH hv
theorem al_pcl (hw : wantA l σ o = some true) {fo : Operand} {ao : List Operand} {ts : Array TypeId} (ho : o.op = .call { callee := .value fo, args := ao.toArray, argTypes := ts }) {f : FuncId} {fa ca : List AV} (hf : σ.ev fo = .fn (.func f) fa ca) (hg : GoFn P f)
    {q : Prop} {args' args'' : List AV} {used : List Nat} (ht : thawL (thaw σ.H 4) (fa ++ ao.map σ.ev ++ ca) = some (q, args', used)) (hq : q) {x : AV} {N : List AObj} (h : APure P f args'' x N) (hl : LeS args' args'')
    (next : AL P r l Q R (St.put ⟨σ.s, share used 0 σ.H ++ N.map (renObj (sh σ.H.length)), σ.fg, σ.nb⟩ o.dst (ren (sh σ.H.length) 4 x))) : AL P r l Q (o :: R) σ := al_pc hw ho hf hg ht hq (h.le hl) next
theorem ad_pcl (hw : wantA l σ' o = some true) {fo : Operand} {ao : List Operand} {ts : Array TypeId} (ho : o.op = .call { callee := .value fo, args := ao.toArray, argTypes := ts }) {f : FuncId} {fa ca : List AV} (hf : σ'.ev fo = .fn (.func f) fa ca) (hg : GoFn P f)
    (hid : (fa ++ ao.map σ'.ev ++ ca).all (idfree 4) = true) {args'' : List AV} {x y : AV} {N : List AObj} {q : Prop} {used : List Nat} (h : APure P f args'' x N) (hl : LeS (fa ++ ao.map σ'.ev ++ ca) args'') (ht : thaw N 4 x = some (q, y, used)) (hq : q) (next : ADr P r l Q m σ R (σ'.put o.dst y)) : ADr P r l Q m σ (o :: R) σ' :=
  ad_call hw ho hf hg hid (h.le hl) ht hq next
theorem ret1 {rs : List ResultVar} {q : Prop} {x y : AV} {N : List AObj} (h : aRes tab σ rs = some (q, [y])) (hq : q) (ht : Tells ⟨[y], σ.H, σ.fg, σ.nb⟩ ⟨[x], N, σ.fg, σ.nb⟩) : RetP tab rs (fun r' H' _ => r' = x ∧ H' = N) .ret σ := retp h hq [x] N ht ⟨rfl, rfl⟩
theorem rett {rs : List ResultVar} {q : Prop} {l l' : List AV} {N : List AObj} (h : aRes tab σ rs = some (q, l)) (hq : q) (hl : resOf l' = .tup l') (ht : Tells ⟨l, σ.H, σ.fg, σ.nb⟩ ⟨l', N, σ.fg, σ.nb⟩) : RetP tab rs (fun r' H' _ => r' = .tup l' ∧ H' = N) .ret σ := retp h hq l' N ht ⟨hl, rfl⟩
theorem Tells.all {s : List AV} {H : List AObj} {fg : List Nat} {nb : YB} {s' : List AV} (hk : selOk [] nb.n = true) (hl : LeS (s.map (ren (idx []) 4)) s') : Tells ⟨s, H, fg, nb⟩ ⟨s', [], fg, nb⟩ := (Tells.sel [] rfl hk).trans (Tells.le hl .nil)
/-- A literal of a list. -/
theorem leLit {e : Enc α} {sz n : Nat} {t : Bool} {xs : List α} {css : List (List AV)} (h : css = xs.map e.enc) (hn : n = xs.length) : AV.Le (.sl sz n t (getC css)) (.sl sz xs.length false (fE e xs)) :=
  .sl hn (fun h => by cases h) fun k hk => fE_lit h (hn ▸ hk)
/-- A cut of a list. -/
theorem leCut {e : Enc α} {sz n : Nat} {lo hi : Option Int} {t t' : Bool} {xs ys : List α} (hn : n = xs.length) (hok : cutHi hi n ≤ n) (ht : t' = true → t = true) (hy : ys = (xs.take (cutHi hi n)).drop (cutLo lo)) :
    AV.Le (.sl sz (cutLen lo hi n) t (cutF lo (fE e xs))) (.sl sz ys.length t' (fE e ys)) := by
  subst hn hy
  refine .sl ?_ ht fun k hk => ?_
  · rw [cutLen_eq, List.length_drop, List.length_take, Nat.min_eq_left hok]
  · rw [cutLen_eq] at hk
    rw [cutF_eq]
    simp only [fE, List.getD_eq_getElem?_getD, List.getElem?_drop, List.getElem?_take]
    rw [if_pos (by omega)]
/-- A call that boxes its first argument (a pointer) and answers a function that has captured what the call had, and the box. -/
def BoxC (P : Program) (f g : FuncId) (T : TypeId) : Prop := ∀ (p : Option Addr) (v : Value) (w : World), Calls P f #[.pointer p, v] w fun e w' => e = .returned (.func (.func g) #[] #[v, .pointer (some ⟨w.heap.size, 0, none⟩)]) ∧ w' = w.alloc (.cells #[.pointer p] T)
theorem dstep_box {ev : Operand → AV} {H0 : List AObj} {id : Nat} {o : Oper} {fo x : Operand} {ts : Array TypeId} (ho : o.op = .call { callee := .value fo, args := #[x], argTypes := ts }) {f g : FuncId} {c : AV} (hf : ev fo = .fn (.func f) [] [c]) (hg : GoFn P f)
    {i sz k off : Nat} (hx : ev x = .ptr i sz k off) {T : TypeId} (hc : BoxC P f g T) : DStep P ev H0 id o ⟨.fn (.func g) [] [c, .ptr id 1 0 0], some { T := T, sz := 1, n := 1, f := fun _ => [.ptr i sz k off], pure := false, box := true }⟩ := by
  obtain ⟨fn, cd, hfn, hnm, hb⟩ := hg
  intro w X μ H ρ hH hle hr
  have hfv := hr fo (by rw [ho]; simp [Op.operands, Call.operands])
  have hxv := hr x (by rw [ho]; simp [Op.operands, Call.operands])
  rw [hf] at hfv
  rw [hx] at hxv
  generalize hgv : ρ fo = fv at hfv
  generalize hpv : ρ x = pv at hxv
  cases hxv with
  | ptr hp =>
    rename_i b0 m0
    cases hfv with
    | fn h1 h2 h3 h4 =>
      rename_i vs us
      cases vs with
      | cons => simp at h1
      | nil =>
        match us, h3 with
        | [v2], _ =>
          have hv2 := h4 0 c v2 rfl rfl
          refine stepOk_call (ao := [x]) ho hgv hfn hnm hb ?_
          have := hc (some ⟨b0, k * sz + off, none⟩) v2 w
          have he : ([] ++ [x].map ρ ++ [v2]).toArray = #[.pointer (some ⟨b0, k * sz + off, none⟩), v2] := by rw [← hpv]; rfl
          rw [he]
          refine this.mono fun e w' he => ?_
          obtain ⟨rfl, rfl⟩ := he
          have hal : Below w.heap.size w (w.alloc (.cells #[.pointer (some ⟨b0, k * sz + off, none⟩)] T)) := Below.alloc (Below.refl _ _) (Nat.le_refl _) _
          refine ⟨_, rfl, hal, w.heap.size, 1, #[.pointer (some ⟨b0, k * sz + off, none⟩)], Nat.le_refl _, ?_, Nat.zero_lt_one, rfl, ⟨heap_alloc_new w _, rfl, ?_, Nat.le_refl _, fun k j v hk hj hv => ?_, fun k hk => rfl, fun k j a v hk ha hv => ?_⟩, fun O' μ' hO hμ hm => ?_⟩
          · simp
          · unfold maxLen; omega
          · have hk : k < 1 := hk
            have hj : j < 1 := hj
            obtain rfl : k = 0 := by omega
            obtain rfl : j = 0 := by omega
            have hv : some (Value.pointer (some ⟨b0, _, none⟩)) = some v := hv
            injection hv with hv; subst hv; rfl
          · have hk : k < 1 := hk
            obtain rfl : k = 0 := by omega
            match j with
            | 0 =>
              have ha : some (AV.ptr i sz _ off) = some a := ha
              have hv : some (Value.pointer (some ⟨b0, _, none⟩)) = some v := hv
              injection ha with ha; injection hv with hv; subst ha hv
              exact .ptr hp
            | j + 1 => cases ha
          · refine .fn (vs := []) (us := [v2, _]) rfl (fun j a v ha => by simp at ha) rfl fun j a v ha hv => ?_
            match j with
            | 0 =>
              simp at ha hv; subst ha hv
              exact hv2.mono (fun b hb hb' => (hO b hb').elim (fun h => h) fun h => by omega) (fun b hb _ => hal.block b hb) _ hμ
            | 1 =>
              simp at ha hv; subst ha hv
              exact (show RV O' _ μ' (.ptr id 1 0 0) (.pointer (some ⟨w.heap.size, 0 * 1 + 0, none⟩)) from .ptr hm)
            | j + 2 => simp at ha
theorem ad_box (hw : wantA l σ' o = some true) {fo x : Operand} {ts : Array TypeId} (ho : o.op = .call { callee := .value fo, args := #[x], argTypes := ts }) {f g : FuncId} {c : AV} (hf : σ'.ev fo = .fn (.func f) [] [c]) (hg : GoFn P f)
    {i sz k off : Nat} (hx : σ'.ev x = .ptr i sz k off) {T : TypeId} (hc : BoxC P f g T)
    (next : ADr P r l Q m σ R (St.put ⟨σ'.s, σ'.H ++ [{ T := T, sz := 1, n := 1, f := fun _ => [.ptr i sz k off], pure := false, box := true }], σ'.fg, σ'.nb⟩ o.dst (.fn (.func g) [] [c, .ptr σ'.H.length 1 0 0]))) : ADr P r l Q m σ (o :: R) σ' :=
  ad_step hw (dstep_box ho hf hg hx hc) (by rw [got_new]; exact next)
/-- append, and what the row's elements are from then on. -/
theorem al_app {q : Prop} {y : AV} {H' : List AObj} {id : Nat} {ob : AObj} {t : TypeId} {sx xx : Operand} (f' : Nat → List AV) (hT : TabOk P tab) (hw : wantA l σ o = some true) (ho : o.op = .call { callee := .builtin .append, args := #[sx, xx], argTypes := #[t, t] })
    (h : aAppend tab σ.H t (σ.ev sx) (σ.ev xx) = some (q, y, H', some id)) (hob : nth H' id = some ob) (hq : q) (hf : ∀ k, k < ob.n → f' k = ob.f k)
    (next : AL P r l Q R ((σ.behind (setn H' id { ob with f := f' }) (some id)).put o.dst y)) : AL P r l Q (o :: R) σ := by
  refine al_append hT hw ho h hq ?_
  refine al_tell (σ' := (σ.behind (setn H' id { ob with f := f' }) (some id)).put o.dst y) ?_ next
  cases hd : o.dst <;> exact Tells.objf id f' hob hf
end Go.Proofs.YthcoccoanpmhgaaDoor
