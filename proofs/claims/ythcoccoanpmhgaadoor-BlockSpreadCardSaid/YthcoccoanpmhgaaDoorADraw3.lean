/- Drawn regions: what shows a step of one (DStep): an operation without memory, one that makes an object, a call. -/
import Derived.Test.YthcoccoanpmhgaaDoorADraw2
namespace Go.Proofs.YthcoccoanpmhgaaDoor
open Go.RowKit
set_option linter.unusedVariables false
set_option linter.unusedSimpArgs false
set_option linter.unusedSectionVars false
variable {P : Program} {tab : Tab} {X : Nat → Prop} {H H' : List AObj} {μ μ' : Mu} {w w' : World} {O O' : Nat → Prop}
theorem map_congr' {α β : Type} {f g : α → β} : ∀ {l : List α}, (∀ x ∈ l, f x = g x) → l.map f = l.map g
  | [], _ => rfl
  | a :: l, h => by simp only [List.map_cons]; rw [h a (by simp), map_congr' fun x hx => h x (by simp [hx])]
theorem aPure_congr {ev ev' : Operand → AV} (op : Op) (h : ∀ y ∈ op.operands, ev y = ev' y) : aPure tab H ev op = aPure tab H ev' op := by
  cases op
  case call c =>
    obtain ⟨callee, ⟨args⟩, ⟨ts⟩⟩ := c
    cases callee with
    | value f => rfl
    | invoke r m => rfl
    | builtin b =>
      have hx : ∀ x ∈ args, ev x = ev' x := fun x hx => h x (by simp [Op.operands, Call.operands, hx])
      cases b <;> first
        | rfl
        | (rcases args with _ | ⟨x, _ | ⟨y, _ | ⟨z, args⟩⟩⟩ <;> rcases ts with _ | ⟨t, _ | ⟨t', ts⟩⟩ <;> first
            | rfl
            | (simp only [List.mem_cons, List.not_mem_nil, or_false, forall_eq_or_imp, forall_eq] at hx; simp only [aPure, hx]; done))
  case slice t x lo hi mx =>
    have h1 : ev x = ev' x := h x (by simp [Op.operands])
    have h2 : lo.map ev = lo.map ev' := by cases lo; rfl; simp only [Option.map_some]; rw [h _ (by simp [Op.operands])]
    have h3 : hi.map ev = hi.map ev' := by cases hi; rfl; simp only [Option.map_some]; rw [h _ (by simp [Op.operands])]
    have h4 : mx.map ev = mx.map ev' := by cases mx; rfl; simp only [Option.map_some]; rw [h _ (by simp [Op.operands])]
    simp only [aPure, h1, h2, h3, h4]
  case build t ps =>
    have : ps.toList.map (fun p => (p.1, ev p.2)) = ps.toList.map (fun p => (p.1, ev' p.2)) := map_congr' fun p hp => by rw [h p.2 (by simp [Op.operands]; exact ⟨_, Array.mem_toList_iff.1 hp⟩)]
    simp only [aPure, this]
  case makeFunc fn a b =>
    have h1 : a.toList.map ev = a.toList.map ev' := map_congr' fun y hy => h y (by simp [Op.operands]; exact .inl (Array.mem_toList_iff.1 hy))
    have h2 : b.toList.map ev = b.toList.map ev' := map_congr' fun y hy => h y (by simp [Op.operands]; exact .inr (Array.mem_toList_iff.1 hy))
    simp only [aPure, h1, h2]
  all_goals first
    | rfl
    | (simp only [Op.operands, List.mem_toArray, List.mem_cons, List.not_mem_nil, or_false, forall_eq_or_imp, forall_eq] at h; simp only [aPure, h]; done)
theorem aLoad_mono (hle : ∀ (i : Nat) ob, H[i]? = some ob → H'[i]? = some ob) {t : TypeId} {p : AV} {r : Prop × AV} (h : aLoad tab t p H = some r) : aLoad tab t p H' = some r := by
  unfold aLoad at h ⊢
  cases ht : tab t with
  | none => rw [ht] at h; cases h
  | some i =>
    rw [ht] at h
    simp only at h ⊢
    cases p <;> simp only at h ⊢ <;> try exact h
    rename_i id sz k o
    cases hn : nth H id with
    | none => rw [hn] at h; cases h
    | some ob =>
      rw [hn] at h
      rw [nth_eq] at hn
      rw [nth_eq, hle _ _ hn]
      exact h
theorem aSlice_mono (hle : ∀ (i : Nat) ob, H[i]? = some ob → H'[i]? = some ob) {t : TypeId} {x : AV} {lo hi mx : Option AV} {r : Prop × AV} (h : aSlice tab H t x lo hi mx = some r) : aSlice tab H' t x lo hi mx = some r := by
  cases x
  case ptr id sz k o =>
    unfold aSlice at h ⊢
    cases h1 : tab t <;> cases h2 : aBound lo <;> cases h3 : aBound hi <;> cases h4 : aBound mx <;> simp only [h1, h2, h3, h4] at h ⊢ <;> first | (cases h; done) | skip
    rename_i i _ _ _
    cases hk : i.k <;> (try simp only [hk] at h) <;> (try simp only [hk]) <;> first | (cases h; done) | skip
    cases hn : nth H id with
    | none => rw [hn] at h; split at h <;> first | (cases h; done) | (rename_i he; cases he)
    | some ob =>
      rw [hn] at h
      rw [nth_eq] at hn
      rw [nth_eq, hle _ _ hn]
      exact h
  all_goals
    rw [← h]
    unfold aSlice
    cases h1 : tab t <;> cases h2 : aBound lo <;> cases h3 : aBound hi <;> cases h4 : aBound mx <;> simp only [h1, h2, h3, h4]
    rename_i i _ _ _
    cases hk : i.k <;> first
      | rfl
      | (rename_i x _ _ _ _; rcases x <;> first
          | rfl
          | (rename_i A n c; rcases A with _ | A <;> rcases n with _ | n <;> rcases c with _ | c <;> rfl))
      | (rename_i x _ _ _ _ _; rcases x <;> first
          | rfl
          | (rename_i A n c; rcases A with _ | A <;> rcases n with _ | n <;> rcases c with _ | c <;> rfl))
      | (rename_i x _ _ _; rcases x <;> first
          | rfl
          | (rename_i A n c; rcases A with _ | A <;> rcases n with _ | n <;> rcases c with _ | c <;> rfl))
theorem aPure_mono (hle : ∀ (i : Nat) ob, H[i]? = some ob → H'[i]? = some ob) {ev : Operand → AV} {op : Op} {r : Prop × AV} (h : aPure tab H ev op = some r) : aPure tab H' ev op = some r := by
  cases op
  case load t x => exact aLoad_mono hle h
  case slice t x lo hi mx => exact aSlice_mono hle h
  case call c =>
    rw [← h]
    obtain ⟨callee, ⟨args⟩, ⟨ts⟩⟩ := c
    cases callee with
    | value f => rfl
    | invoke r m => rfl
    | builtin b =>
      cases b <;> first
        | rfl
        | (rcases args with _ | ⟨x, _ | ⟨y, _ | ⟨z, args⟩⟩⟩ <;> rcases ts with _ | ⟨t, _ | ⟨t', ts⟩⟩ <;> rfl)
  all_goals exact h
open Classical in
/-- What is read alone. -/
noncomputable def only (op : Op) (ev : Operand → AV) : Operand → AV := fun y => if y ∈ op.operands then ev y else .junk
theorem only_eq {op : Op} {ev : Operand → AV} : ∀ y ∈ op.operands, ev y = only op ev y := fun y hy => by unfold only; rw [if_pos hy]
theorem only_rv {op : Op} {ev : Operand → AV} {ρ : Operand → Value} (h : ∀ y ∈ op.operands, RV O w μ (ev y) (ρ y)) (y : Operand) : RV O w μ (only op ev y) (ρ y) := by
  unfold only
  split
  · exact h y ‹_›
  · exact .junk _
theorem dstep_pure (hT : TabOk P tab) {ev : Operand → AV} {H0 : List AObj} {id : Nat} {o : Oper} {q : Prop} {x : AV} (h : aPure tab H0 ev o.op = some (q, x)) (hq : q) : DStep P ev H0 id o ⟨x, none⟩ := by
  intro w X μ H ρ hH hle hr
  obtain ⟨u, h1, h2⟩ := pure_sound hT ((aPure_congr o.op only_eq).symm.trans (aPure_mono hle h)) hq hH (only_rv hr)
  unfold StepOk
  rw [h1]
  exact ⟨Below.refl _ _, h2⟩
theorem partsCells_congr {ev ev' : Operand → AV} {sz : Nat} : ∀ {l : List (Nat × Operand)} {k : Nat}, (∀ p ∈ l, ev p.2 = ev' p.2) → partsCells ev sz k l = partsCells ev' sz k l
  | [], k, h => rfl
  | (i, x) :: l, k, h => by simp only [partsCells]; rw [h (i, x) (by simp), partsCells_congr fun p hp => h p (by simp [hp])]
theorem aNew_congr {ev ev' : Operand → AV} {id : Nat} (op : Op) (h : ∀ y ∈ op.operands, ev y = ev' y) : aNew tab ev id op = aNew tab ev' id op := by
  cases op
  case buildSlice t len ps =>
    simp only [aNew, aBuildSlice]
    have : ∀ sz, partsCells ev sz 0 ps.toList = partsCells ev' sz 0 ps.toList := fun sz => partsCells_congr fun p hp => h p.2 (by simp [Op.operands]; exact ⟨_, Array.mem_toList_iff.1 hp⟩)
    simp only [this]
  all_goals first
    | rfl
    | (simp only [Op.operands, List.mem_toArray, List.mem_cons, List.not_mem_nil, or_false, forall_eq_or_imp, forall_eq] at h; simp only [aNew, h]; done)
theorem dstep_new (hT : TabOk P tab) {ev : Operand → AV} {H0 : List AObj} {id : Nat} {o : Oper} {q : Prop} {x : AV} {ob : AObj} (h : aNew tab ev id o.op = some (q, x, ob)) (hq : q) : DStep P ev H0 id o ⟨x, some ob⟩ := by
  intro w X μ H ρ hH hle hr
  have hn := new_ok (μ := μ) hT (only_rv hr) ((aNew_congr o.op only_eq).symm.trans h) hq
  obtain ⟨u, cur, h1, h2, h3, h4, h5⟩ := hn.run
  unfold StepOk
  rw [h1]
  have hal : Below w.heap.size w (w.alloc (.cells cur ob.T)) := Below.alloc (Below.refl _ _) (Nat.le_refl _) _
  refine ⟨hal, w.heap.size, ob.n, cur, Nat.le_refl _, by simp, hn.sz, hn.st, ⟨heap_alloc_new w _, h2, hn.le, Nat.le_refl _, h3, hn.flen, fun k j a v hk ha hv => ?_⟩, fun O' μ' _ _ hm => h5 O' _ μ' hm⟩
  refine (h4 k j a v hk ha hv).mono (fun b hb hb' => ?_) (fun b hb _ => hal.block b hb) _ (fun _ _ h => h)
  rcases hb' with h | h
  · exact h
  · omega
theorem stepOk_call {ρ : Operand → Value} {o : Oper} {fo : Operand} {ao : List Operand} {ts : Array TypeId} (ho : o.op = .call { callee := .value fo, args := ao.toArray, argTypes := ts }) {f : FuncId} {vs us : List Value} (hf : ρ fo = .func (.func f) vs.toArray us.toArray)
    {fn : Func} {c : Code} (hfn : P.funcs[f]? = some fn) (hnm : (fn.name == "runtime.NumGoroutine") = false) (hb : fn.body = some c) {R : Value → World → Prop}
    (h : Calls P f (vs ++ ao.map ρ ++ us).toArray w fun e w' => ∃ v, e = .returned v ∧ R v w') : StepOk P (execOp ρ o) w R := by
  have hrun : (execOp ρ o).run P w = .ok (.enter f (vs ++ ao.map ρ ++ us).toArray) w := by
    unfold execOp
    rw [ho]
    simp only [resolve, hf, Deferred.ofValue, Sem.run_bind, Sem.run_pure, Result.andThen_ok, invoke, run_enter hfn hnm hb]
    simp
  unfold StepOk
  rw [hrun]
  exact h.mono fun e w' ⟨v, he, hr⟩ => by subst he; exact hr
/-- A call of a function that keeps to itself, in a drawn region: what it is given names nothing of one's own. -/
theorem dcall {ev : Operand → AV} {ρ : Operand → Value} {o : Oper} {fo : Operand} {ao : List Operand} {ts : Array TypeId} (ho : o.op = .call { callee := .value fo, args := ao.toArray, argTypes := ts }) {f : FuncId} {fa ca : List AV} (hf : ev fo = .fn (.func f) fa ca)
    {fn : Func} {c : Code} (hfn : P.funcs[f]? = some fn) (hnm : (fn.name == "runtime.NumGoroutine") = false) (hb : fn.body = some c) (hid : (fa ++ ao.map ev ++ ca).all (idfree 4) = true) {x : AV} {N : List AObj} (h : APure P f (fa ++ ao.map ev ++ ca) x N)
    (hX : ∀ b, O b → b < w.heap.size) (hgl : GlobOk O noMu w) (hr : ∀ y ∈ o.op.operands, RV O w μ (ev y) (ρ y)) {R : Value → World → Prop} (hR : ∀ v w' μ', HRel μ' O N w' → RV (OO O N μ') w' μ' x v → Below w.heap.size w w' → (∀ i b m, μ' i = some (some (b, m)) → w.heap.size ≤ b) → R v w') : StepOk P (execOp ρ o) w R := by
  have hfv := hr fo (by rw [ho]; simp [Op.operands, Call.operands])
  rw [hf] at hfv
  generalize hg : ρ fo = fv at hfv
  cases hfv with
  | fn h1 h2 h3 h4 =>
    rename_i vs us
    have hargs : RVs O w μ (ao.map ev) (ao.map ρ) := ⟨by simp, fun j x v hx hv => by
      simp only [List.getElem?_map, Option.map_eq_some_iff] at hx hv
      obtain ⟨p, hp, rfl⟩ := hx
      obtain ⟨p', hp', rfl⟩ := hv
      rw [hp] at hp'; injection hp' with hp'; subst hp'
      exact hr p (by rw [ho]; simp only [Op.operands, Call.operands]; exact Array.mem_append.2 (.inr (by simpa using List.mem_of_getElem? hp)))⟩
    have hall := ((show RVs O w μ fa vs from ⟨h1, h2⟩).append hargs).append (show RVs O w μ ca us from ⟨h3, h4⟩)
    have hall0 : RVs (OO O [] noMu) w noMu (fa ++ ao.map ev ++ ca) (vs ++ ao.map ρ ++ us) := ⟨hall.1, fun j a v ha hv => (idfree_rv 4 (List.all_eq_true.1 hid a (List.mem_of_getElem? ha)) (hall.2 j a v ha hv)).mono (fun b _ hb => hb.elim id fun ⟨i, o, m, hi, _⟩ => (by simp at hi)) (fun _ _ _ => rfl) _ fun _ _ h => h⟩
    refine stepOk_call ho hg hfn hnm hb ((h w O noMu _ ⟨fun i l h => (by cases h), fun i j b m m' h => (by cases h), fun i b m h => (by cases h), fun i o h => (by simp at h), hX, hgl⟩ hall0).mono fun e w' he => ?_)
    obtain ⟨v, r', H1, fg1, μ1, rfl, ⟨rfl, rfl⟩, g1, g2, g3, g4, _, _⟩ := he
    exact ⟨v, rfl, hR v w' μ1 g1 g2 g3.below fun i b m hi => by
      rcases g4 i b m hi with ⟨j, m', hj⟩ | h
      · cases hj
      · exact h⟩
/-- Its answer is data. -/
theorem dstep_data {ev : Operand → AV} {H0 : List AObj} {id : Nat} {o : Oper} {fo : Operand} {ao : List Operand} {ts : Array TypeId} (ho : o.op = .call { callee := .value fo, args := ao.toArray, argTypes := ts }) {f : FuncId} {fa ca : List AV} (hf : ev fo = .fn (.func f) fa ca)
    {fn : Func} {c : Code} (hfn : P.funcs[f]? = some fn) (hnm : (fn.name == "runtime.NumGoroutine") = false) (hb : fn.body = some c) (hid : (fa ++ ao.map ev ++ ca).all (idfree 4) = true) {x y : AV} {N : List AObj} {q : Prop} {used : List Nat} (h : APure P f (fa ++ ao.map ev ++ ca) x N)
    (ht : thaw N 4 x = some (q, y, used)) (hq : q) : DStep P ev H0 id o ⟨y, none⟩ := by
  intro w X μ H ρ hH hle hr
  refine dcall ho hf hfn hnm hb hid h (fun b hb => ?_) hH.glO hr fun v w' μ1 g1 g2 g3 g4 => ⟨g3, ?_⟩
  · rcases hb with h | ⟨i, o, m, hi, hs, hm⟩
    · exact hH.xlt b h
    · exact (hH.lt i b m hm).1
  · refine (thaw_rv g1 4 ht hq g2).mono (fun b _ hb => ⟨.inl hb, fun i _ m hm => (g1.lt i b m hm).2 hb⟩) (fun _ _ _ => rfl) _ fun _ _ h => by cases h
theorem row_inv {i id sz off n b m : Nat} {cap : Option Nat} {v : Value} (h : RV O w μ (.row i sz off n cap) v) (hm : μ i = some (some (b, m))) (hm' : μ' id = some (some (b, m))) : RV O' w' μ' (.row id sz off n cap) v := by
  cases h with
  | rowNil h hc => rw [hm] at h; cases h
  | row h e1 e2 e3 e4 =>
    rw [hm] at h; injection h with h; injection h with h; injection h with k1 k2; subst k1 k2
    exact .row hm' e1 e2 e3 e4
  | rowE h e1 e2 =>
    rw [hm] at h; injection h with h; injection h with h; injection h with k1 k2; subst k1 k2
    exact .rowE hm' e1 e2
/-- Its answer is a row that it made. -/
theorem dstep_row {ev : Operand → AV} {H0 : List AObj} {id : Nat} {o : Oper} {fo : Operand} {ao : List Operand} {ts : Array TypeId} (ho : o.op = .call { callee := .value fo, args := ao.toArray, argTypes := ts }) {f : FuncId} {fa ca : List AV} (hf : ev fo = .fn (.func f) fa ca)
    {fn : Func} {c : Code} (hfn : P.funcs[f]? = some fn) (hnm : (fn.name == "runtime.NumGoroutine") = false) (hb : fn.body = some c) (hid : (fa ++ ao.map ev ++ ca).all (idfree 4) = true) {sz off n : Nat} {cap : Option Nat} {ob : AObj} (h : APure P f (fa ++ ao.map ev ++ ca) (.row 0 sz off n cap) [ob])
    (hst : ob.st = 0) (hp : ob.pure = true) (hn : 0 < ob.n) : DStep P ev H0 id o ⟨.row id sz off n cap, some ob⟩ := by
  intro w X μ H ρ hH hle hr
  refine dcall ho hf hfn hnm hb hid h (fun b hb => ?_) hH.glO hr fun v w' μ1 g1 g2 g3 g4 => ⟨g3, ?_⟩
  · rcases hb with h | ⟨i, o, m, hi, hs, hm⟩
    · exact hH.xlt b h
    · exact (hH.lt i b m hm).1
  · obtain ⟨hz, ⟨_, h0⟩ | ⟨b, m, cur, hm, hin⟩⟩ := g1.obj 0 ob rfl (by omega)
    · omega
    · refine ⟨b, m, cur, g4 0 b m hm, (g1.lt 0 b m hm).1, hz, hst, ⟨hin.blk, hin.size, hin.le, hin.nle, hin.one, hin.flen, fun k j a v hk ha hv => ?_⟩, fun O' μ' _ _ hm' => ?_⟩
      · have := hin.cell k j a v hk ha hv
        refine this.mono (fun b' _ hb' => ?_) (fun _ _ _ => rfl) _ ?_
        · rcases hb' with h | h
          · exact .inl h
          · subst h; exact .inr ⟨0, ob, m, rfl, hst, hm⟩
        · rw [hp]; exact fun _ _ h => h
      · exact row_inv g2 hm hm'
end Go.Proofs.YthcoccoanpmhgaaDoor
