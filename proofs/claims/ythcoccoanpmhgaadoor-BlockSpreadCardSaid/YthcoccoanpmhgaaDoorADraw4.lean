/- Drawn regions, state by state. -/
import Derived.Test.YthcoccoanpmhgaaDoorADraw3
namespace Go.Proofs.YthcoccoanpmhgaaDoor
open Go.RowKit
set_option linter.unusedVariables false
set_option linter.unusedSimpArgs false
set_option linter.unusedSectionVars false
variable {P : Program} {tab : Tab} {r : Option Nat} {l R : List Oper} {Q : Exit → St → Prop} {σ σ' : St} {o : Oper} {m : Nat}
theorem slotsS_append (S : Nat → Bool) : ∀ (D E : List (Oper × DR)) (k : Nat) (s : List AV), slotsS S k (D ++ E) s = slotsS S (k + D.length) E (slotsS S k D s)
  | [], E, k, s => rfl
  | p :: D, E, k, s => by
    simp only [List.cons_append, slotsS, List.length_cons]
    rw [slotsS_append S D E (k + 1)]
    congr 1; omega
theorem newsS_append (S : Nat → Bool) : ∀ (D E : List (Oper × DR)) (k : Nat), newsS S k (D ++ E) = newsS S k D ++ newsS S (k + D.length) E
  | [], E, k => rfl
  | p :: D, E, k => by
    simp only [List.cons_append, newsS, List.length_cons, List.append_assoc]
    rw [newsS_append S D E (k + 1), show k + 1 + D.length = k + (D.length + 1) by omega]
def St.got (σ : St) (t : Option Tmp) (d : DR) : St := ⟨setD σ.s t d.x, σ.H ++ d.news true, σ.fg, σ.nb⟩
theorem σS_snoc (D : List (Oper × DR)) (o : Oper) (d : DR) : σS σ (D ++ [(o, d)]) (fun _ => true) = (σS σ D fun _ => true).got o.dst d := by
  simp only [σS, slotsS_append, newsS_append, St.got, slotsS, newsS, List.append_nil, List.append_assoc]
/-- The rest of the first operations, from the state that the ones ahead have made. -/
def ADr (P : Program) (r : Option Nat) (l : List Oper) (Q : Exit → St → Prop) (m : Nat) (σ0 : St) (R : List Oper) (σ' : St) : Prop :=
  ∀ D, σS σ0 D (fun _ => true) = σ' → AD P l σ0 (fun D => AL P r l Q (l.drop m) (σS σ0 D fun _ => true)) R D
theorem aw_drawr (hm : P.follows .mixedOrders = true) {id : Nat} (m : Nat) (hok : okD l m = true) (hnd : l.all nDefer = true) (h : ADr P r l Q m σ (l.take m) σ) : AW P r (.region id l.toArray true) Q σ :=
  aw_draw hm m hok hnd (h [] (by simp [σS, slotsS, newsS]))
theorem ad_end (h : AL P r l Q (l.drop m) σ') : ADr P r l Q m σ [] σ' := fun D hD => by
  simp only [AD]; rw [hD]; exact h
theorem ad_step {d : DR} (hd : wantA l σ' o = some true) (h : DStep P σ'.ev σ.H σ'.H.length o d) (next : ADr P r l Q m σ R (σ'.got o.dst d)) : ADr P r l Q m σ (o :: R) σ' := fun D hD => by
  have hl : σ'.H.length = σ.H.length + nNews D := by rw [← hD]; simp [σS, newsS_len]
  exact ⟨d, .inl ⟨by rw [hD]; exact hd, by rw [hD, ← hl]; exact h⟩, next _ (by rw [σS_snoc, hD])⟩
theorem ad_skip (hd : wantA l σ' o = some false) (next : ADr P r l Q m σ R (σ'.put o.dst (.lit undef))) : ADr P r l Q m σ (o :: R) σ' := fun D hD => by
  refine ⟨⟨.lit undef, none⟩, .inr ⟨by rw [hD]; exact hd, rfl⟩, next _ ?_⟩
  rw [σS_snoc, hD]
  cases hd' : o.dst <;> simp [St.got, St.put, DR.news, setD]
theorem got_plain {t : Option Tmp} {x : AV} : σ'.got t ⟨x, none⟩ = σ'.put t x := by cases t <;> simp [St.got, St.put, DR.news, setD]
theorem got_new {t : Option Tmp} {x : AV} {ob : AObj} : σ'.got t ⟨x, some ob⟩ = St.put ⟨σ'.s, σ'.H ++ [ob], σ'.fg, σ'.nb⟩ t x := by cases t <;> simp [St.got, St.put, DR.news, setD]
theorem ad_pure (hT : TabOk P tab) (hw : wantA l σ' o = some true) {q : Prop} {x : AV} (h : aPure tab σ.H σ'.ev o.op = some (q, x)) (hq : q) (next : ADr P r l Q m σ R (σ'.put o.dst x)) : ADr P r l Q m σ (o :: R) σ' :=
  ad_step hw (dstep_pure hT h hq) (by rw [got_plain]; exact next)
theorem ad_new (hT : TabOk P tab) (hw : wantA l σ' o = some true) {q : Prop} {x : AV} {ob : AObj} (h : aNew tab σ'.ev σ'.H.length o.op = some (q, x, ob)) (hq : q) (next : ADr P r l Q m σ R (St.put ⟨σ'.s, σ'.H ++ [ob], σ'.fg, σ'.nb⟩ o.dst x)) : ADr P r l Q m σ (o :: R) σ' :=
  ad_step hw (dstep_new hT h hq) (by rw [got_new]; exact next)
/-- A call in the drawn part, whose answer is data. -/
theorem ad_call (hw : wantA l σ' o = some true) {fo : Operand} {ao : List Operand} {ts : Array TypeId} (ho : o.op = .call { callee := .value fo, args := ao.toArray, argTypes := ts }) {f : FuncId} {fa ca : List AV} (hf : σ'.ev fo = .fn (.func f) fa ca) (hg : GoFn P f)
    (hid : (fa ++ ao.map σ'.ev ++ ca).all (idfree 4) = true) {x y : AV} {N : List AObj} {q : Prop} {used : List Nat} (h : APure P f (fa ++ ao.map σ'.ev ++ ca) x N) (ht : thaw N 4 x = some (q, y, used)) (hq : q) (next : ADr P r l Q m σ R (σ'.put o.dst y)) : ADr P r l Q m σ (o :: R) σ' := by
  obtain ⟨fn, c, h1, h2, h3⟩ := hg
  exact ad_step hw (dstep_data ho hf h1 h2 h3 hid h ht hq) (by rw [got_plain]; exact next)
/-- A call in the drawn part, whose answer is a row that it made. -/
theorem ad_row (hw : wantA l σ' o = some true) {fo : Operand} {ao : List Operand} {ts : Array TypeId} (ho : o.op = .call { callee := .value fo, args := ao.toArray, argTypes := ts }) {f : FuncId} {fa ca : List AV} (hf : σ'.ev fo = .fn (.func f) fa ca) (hg : GoFn P f)
    (hid : (fa ++ ao.map σ'.ev ++ ca).all (idfree 4) = true) {sz off n : Nat} {cap : Option Nat} {ob : AObj} (h : APure P f (fa ++ ao.map σ'.ev ++ ca) (.row 0 sz off n cap) [ob]) (hst : ob.st = 0) (hp : ob.pure = true) (hn : 0 < ob.n)
    (next : ADr P r l Q m σ R (St.put ⟨σ'.s, σ'.H ++ [ob], σ'.fg, σ'.nb⟩ o.dst (.row σ'.H.length sz off n cap))) : ADr P r l Q m σ (o :: R) σ' := by
  obtain ⟨fn, c, h1, h2, h3⟩ := hg
  exact ad_step hw (dstep_row ho hf h1 h2 h3 hid h hst hp hn) (by rw [got_new]; exact next)
theorem ad_cons_ (h : ADr P r l Q m σ (o :: R) σ') : ADr P r l Q m σ (o :: R) σ' := h
end Go.Proofs.YthcoccoanpmhgaaDoor
