/- The walk, without memory: renaming objects; what a function answers; calls of functions that keep to themselves. -/
import Derived.Test.YthcoccoanpmhgaaDoorAWp2
namespace Go.Proofs.YthcoccoanpmhgaaDoor
open Go.RowKit
set_option linter.unusedVariables false
set_option linter.unusedSimpArgs false
set_option linter.unusedSectionVars false
variable {P : Program} {tab : Tab} {X : Nat → Prop} {H H' : List AObj} {μ μ' : Mu} {w w' : World} {O O' : Nat → Prop}

/-- Objects by other numbers. -/
def ren (f : Nat → Option Nat) : Nat → AV → AV
  | 0, _ => .junk
  | n + 1, a => match a with
    | .row i sz off k c => match f i with | some j => .row j sz off k c | none => .junk
    | .ptr i sz k o => match f i with | some j => .ptr j sz k o | none => .junk
    | .agg cs => .agg (cs.map (ren f n))
    | .tup cs => .tup (cs.map (ren f n))
    | .fn g a b => .fn g (a.map (ren f n)) (b.map (ren f n))
    | .iface t a => .iface t (ren f n a)
    | a => a
theorem ren_rv {f : Nat → Option Nat} (hf : ∀ i j l, f i = some j → μ i = some l → μ' j = some l) (hO : ∀ b, b < w.heap.size → O' b → O b) (hw : ∀ b, b < w.heap.size → ¬ O b → w'.heap[b]? = w.heap[b]?) : ∀ (n : Nat) {a : AV} {v : Value}, RV O w μ a v → RV O' w' μ' (ren f n a) v
  | 0, a, v, _ => .junk v
  | n + 1, a, v, hv => by
    have fl : ∀ {cs : List AV} {vs : List Value}, (∀ (j : Nat) a v, cs[j]? = some a → vs[j]? = some v → RV O w μ a v) → ∀ (j : Nat) a v, (cs.map (ren f n))[j]? = some a → vs[j]? = some v → RV O' w' μ' a v := by
      intro cs vs h j a v ha hv
      simp only [List.getElem?_map, Option.map_eq_some_iff] at ha
      obtain ⟨a, ha, rfl⟩ := ha
      exact ren_rv hf hO hw n (h j a v ha hv)
    cases hv with
    | junk => exact .junk _
    | lit => exact .lit _
    | agg h1 h2 => exact .agg (by simpa using h1) (fl h2)
    | tup h1 h2 => exact .tup (by simpa using h1) (fl h2)
    | arr a1 a2 a3 a4 => exact .arr a1 a2 a3 fun k j a v hk ha hv => (a4 k j a v hk ha hv).mono hO hw _ fun _ _ h => h
    | sl a0 a1 a2 a3 a4 a5 a6 a7 a8 => exact (RV.sl (μ := noMu) a0 a1 a2 a3 a4 a5 a6 a7 a8).mono hO hw _ fun _ _ h => by cases h
    | ip a1 a2 a3 a4 a5 => exact (RV.ip (μ := noMu) a1 a2 a3 a4 a5).mono hO hw _ fun _ _ h => by cases h
    | rowNil h hc =>
      simp only [ren]
      split
      · exact .rowNil (hf _ _ _ ‹_› h) hc
      · exact .junk _
    | row h h1 h2 h3 h4 =>
      simp only [ren]
      split
      · exact .row (hf _ _ _ ‹_› h) h1 h2 h3 h4
      · exact .junk _
    | rowE h h1 h2 =>
      simp only [ren]
      split
      · exact .rowE (hf _ _ _ ‹_› h) h1 h2
      · exact .junk _
    | ptr h =>
      simp only [ren]
      split
      · exact .ptr (hf _ _ _ ‹_› h)
      · exact .junk _
    | fn h1 h2 h3 h4 => exact .fn (by simpa using h1) (fl h2) (by simpa using h3) (fl h4)
    | iface h1 => exact .iface (ren_rv hf hO hw n h1)
def renObj (f : Nat → Option Nat) (o : AObj) : AObj := match o.pure with | true => o | false => { o with f := fun k => (o.f k).map (ren f 4) }
theorem renObj_same (f : Nat → Option Nat) (o : AObj) : (renObj f o).st = o.st ∧ (renObj f o).sz = o.sz ∧ (renObj f o).n = o.n ∧ (renObj f o).T = o.T ∧ (renObj f o).pure = o.pure := by unfold renObj; split <;> simp_all
theorem renObj_at {f : Nat → Option Nat} (hf : ∀ i j l, f i = some j → μ i = some l → μ' j = some l) (hO : ∀ b, b < w.heap.size → O' b → O b) (hw : ∀ b, b < w.heap.size → ¬ O b → w'.heap[b]? = w.heap[b]?) {i j : Nat} {o : AObj} (h : ObjAt O w μ i o) (hij : ∀ l, μ i = some l → μ' j = some l)
    (hb : ∀ b m, μ i = some (some (b, m)) → w'.heap[b]? = w.heap[b]?) : ObjAt O' w' μ' j (renObj f o) := by
  obtain ⟨e0, e1, e2, e3, e4⟩ := renObj_same f o
  refine ⟨by rw [e1]; exact h.1, ?_⟩
  rcases h.2 with ⟨h1, h2⟩ | ⟨b, m, cur, h1, h2⟩
  · exact .inl ⟨hij _ h1, by rw [e2]; exact h2⟩
  · refine .inr ⟨b, m, cur, hij _ h1, ⟨by rw [e3]; exact (hb b m h1).trans h2.blk, by rw [e1]; exact h2.size, h2.le, by rw [e2]; exact h2.nle, by rw [e1, e2]; exact h2.one, ?_, ?_⟩⟩
    · rw [e1, e2]; intro k hk
      unfold renObj
      split <;> simp [h2.flen k hk]
    · rw [e1, e2, e4]
      intro k j a v hk ha hv
      cases hp : o.pure with
      | true =>
        have he : renObj f o = o := by unfold renObj; rw [hp]
        rw [he] at ha
        have := h2.cell k j a v hk ha hv
        rw [hp] at this
        exact this.mono hO hw _ fun _ _ h => h
      | false =>
        unfold renObj at ha
        rw [hp] at ha
        simp only [List.getElem?_map, Option.map_eq_some_iff] at ha
        obtain ⟨c, hc, rfl⟩ := ha
        have := h2.cell k j c v hk hc hv
        rw [hp] at this
        exact ren_rv hf hO hw 4 this

/-! only some objects, by other numbers -/
def idx : List Nat → Nat → Option Nat
  | [], _ => none
  | k :: ks, i => match Nat.beq k i with | true => some 0 | false => (idx ks i).map (· + 1)
theorem idx_ok : ∀ {ks : List Nat} {i j : Nat}, idx ks i = some j → ks[j]? = some i
  | [], i, j, h => by cases h
  | k :: ks, i, j, h => by
    simp only [idx] at h
    split at h
    · rename_i hb; injection h with h; subst h; simp [beq_t hb]
    · simp only [Option.map_eq_some_iff] at h
      obtain ⟨j', hj', rfl⟩ := h
      simpa using idx_ok hj'
def selH (f : Nat → Option Nat) (H : List AObj) : List Nat → Option (List AObj)
  | [] => some []
  | k :: ks => match nth H k, selH f H ks with
    | some o, some r => some (renObj f o :: r)
    | _, _ => none
theorem selH_ok {f : Nat → Option Nat} : ∀ {ks : List Nat} {H' : List AObj}, selH f H ks = some H' → H'.length = ks.length ∧ ∀ (j : Nat) o', H'[j]? = some o' → ∃ k o, ks[j]? = some k ∧ H[k]? = some o ∧ o' = renObj f o
  | [], H', h => by
    simp only [selH] at h; injection h with h; subst h
    exact ⟨rfl, fun j o' h => by simp at h⟩
  | k :: ks, H', h => by
    simp only [selH] at h
    split at h
    · rename_i o r h1 h2
      injection h with h; subst h
      obtain ⟨g1, g2⟩ := selH_ok h2
      refine ⟨by simp [g1], fun j o' ho => ?_⟩
      cases j with
      | zero => simp at ho; subst ho; rw [nth_eq] at h1; exact ⟨k, o, rfl, h1, rfl⟩
      | succ j => simp at ho; simpa using g2 j o' ho
    · cases h
def selOk (ks : List Nat) (nb : Nat) : Bool := ks.Nodup && (List.range nb).all fun i => nth ks i == some i
theorem SRel.sel {B : Base P} {σ : St} {a : Act} (h : SRel B μ σ a w) {ks : List Nat} {H' : List AObj} (hs : selH (idx ks) σ.H ks = some H') (hk : selOk ks σ.nb.n = true) :
    ∃ μ', SRel B μ' ⟨σ.s.map (ren (idx ks) 4), H', σ.fg, σ.nb⟩ a w := by
  unfold selOk at hk
  rw [Bool.and_eq_true] at hk
  obtain ⟨hnd, hnb⟩ := hk
  have hnd : ks.Nodup := by simpa using hnd
  have hnb : ∀ i, i < σ.nb.n → ks[i]? = some i := fun i hi => by
    have := List.all_eq_true.1 hnb i (List.mem_range.2 hi)
    rw [nth_eq] at this
    simpa using this
  obtain ⟨s1, s2⟩ := selH_ok hs
  let μ' : Mu := fun j => (ks[j]?).bind μ
  have hf : ∀ i j l, idx ks i = some j → μ i = some l → μ' j = some l := fun i j l hi hm => by simp [μ', idx_ok hi, hm]
  have hmu : ∀ j l, μ' j = some l → ∃ k, ks[j]? = some k ∧ μ k = some l := fun j l hj => by
    simp only [μ', Option.bind_eq_some_iff] at hj; exact hj
  have hoo : ∀ b, OO B.X H' μ' b → OO B.X σ.H μ b := by
    rintro b (hx | ⟨j, o', m, hj, hst, hm⟩)
    · exact .inl hx
    · obtain ⟨k, hk1, hk2⟩ := hmu _ _ hm
      obtain ⟨k', o, hk', ho, rfl⟩ := s2 j o' hj
      rw [hk1] at hk'; injection hk' with hk'; subst hk'
      exact .inr ⟨k, o, m, ho, by rw [← (renObj_same (idx ks) o).1]; exact hst, hk2⟩
  have hren : ∀ {a : AV} {v : Value}, RV (OO B.X σ.H μ) w μ a v → RV (OO B.X H' μ') w μ' (ren (idx ks) 4 a) v := fun hr => ren_rv hf (fun b _ hb => hoo b hb) (fun _ _ _ => rfl) 4 hr
  refine ⟨μ', by simpa using h.size, fun t x v hx hv => ?_, ⟨fun j l hj => ?_, fun i j b m m2 hi hj => ?_, fun i b m hi => ?_, fun j o' hj hst => ?_, h.H.xlt, h.H.gl.sub (fun b ⟨i, m, hi⟩ => (let ⟨k, _, hk2⟩ := hmu _ _ hi; ⟨k, m, hk2⟩))⟩, h.df.sub (fun b ⟨i, m, hi⟩ => (let ⟨k, _, hk2⟩ := hmu _ _ hi; ⟨k, m, hk2⟩)) (fun i b m hi => (let ⟨k, _, hk2⟩ := hmu _ _ hi; h.H.lt k b m hk2)), h.chg, fun i b m hi => ?_, h.nb, ?_, fun k x v hk hx => ?_⟩
  · simp only [List.getElem?_map, Option.map_eq_some_iff] at hx
    obtain ⟨y, hy, rfl⟩ := hx
    exact hren (h.slot t y v hy hv)
  · obtain ⟨k, hk1, _⟩ := hmu _ _ hj
    rw [s1]; exact (List.getElem?_eq_some_iff.1 hk1).1
  · obtain ⟨k, hk1, hk2⟩ := hmu _ _ hi
    obtain ⟨k', hk1', hk2'⟩ := hmu _ _ hj
    have := h.H.inj k k' b m m2 hk2 hk2'
    subst this
    have h1 := List.getElem?_eq_some_iff.1 hk1
    have h2 := List.getElem?_eq_some_iff.1 hk1'
    have hp := List.pairwise_iff_getElem.1 hnd
    rcases Nat.lt_trichotomy i j with hlt | heq | hgt
    · exact (hp i j h1.1 h2.1 hlt (h1.2.trans h2.2.symm)).elim
    · exact heq
    · exact (hp j i h2.1 h1.1 hgt (h2.2.trans h1.2.symm)).elim
  · obtain ⟨k, hk1, hk2⟩ := hmu _ _ hi
    exact h.H.lt k b m hk2
  · obtain ⟨k, o, hk1, ho, rfl⟩ := s2 j o' hj
    exact renObj_at hf (fun b _ hb => hoo b hb) (fun _ _ _ => rfl) (h.H.obj k o ho (by rw [← (renObj_same (idx ks) o).1]; exact hst)) (fun l hl => by simp [μ', hk1, hl]) fun _ _ _ => rfl
  · obtain ⟨k, hk1, hk2⟩ := hmu _ _ hi
    exact h.ext k b m hk2
  · rw [s1]
    rcases Nat.eq_zero_or_pos σ.nb.n with h0 | h0
    · rw [h0]; exact Nat.zero_le _
    · have := (List.getElem?_eq_some_iff.1 (hnb (σ.nb.n - 1) (by omega))).1
      simp only; omega
  · refine (h.pres k x v hk hx).mono (fun b _ hb => hoo b hb) (fun _ _ _ => rfl) _ fun i l hi => ?_
    unfold upto at hi ⊢
    split at hi
    · rename_i hlt
      rw [if_pos hlt]
      simp [μ', hnb i (by simp only at hk; omega), hi]
    · cases hi
theorem Tells.sel {σ : St} (ks : List Nat) {H' : List AObj} (hs : selH (idx ks) σ.H ks = some H') (hk : selOk ks σ.nb.n = true) : Tells σ ⟨σ.s.map (ren (idx ks) 4), H', σ.fg, σ.nb⟩ := fun P B μ a w hr => hr.sel hs hk

theorem aw_eq {r : Option Nat} {Q : Exit → St → Prop} {σ σ' : St} {c : Code} (h : σ = σ') (n : AW P r c Q σ') : AW P r c Q σ := by rw [h]; exact n
theorem al_eq {r : Option Nat} {l R : List Oper} {Q : Exit → St → Prop} {σ σ' : St} (h : σ = σ') (n : AL P r l Q R σ') : AL P r l Q R σ := by rw [h]; exact n
theorem al_then {r : Option Nat} {l : List Oper} {Q Q' : Exit → St → Prop} {σ : St} {c : Code} (h : AW P r c Q σ) : AL P r l (Then (AW P r c Q) Q') [] σ := al_nil h
/-! what a function answers -/
def aRes (tab : Tab) (σ : St) : List ResultVar → Option (Prop × List AV)
  | [] => some (True, [])
  | .tmp t :: r => match aRes tab σ r with | some (q, l) => some (q, σ.ev (.tmp t) :: l) | none => none
  | .cell c t :: r => match aLoad tab t (σ.ev (.tmp c)) σ.H, aRes tab σ r with | some (q', x), some (q, l) => some (q' ∧ q, x :: l) | _, _ => none
def resOf : List AV → AV
  | [x] => x
  | l => .tup l
theorem aLoad_ptr {t : TypeId} {p : AV} {q : Prop} {x : AV} (h : aLoad tab t p H = some (q, x)) {v : Value} (hv : RV O w μ p v) : ∃ a, v = .pointer (some a) := by
  unfold aLoad at h
  split at h
  · cases h
  · split at h
    · cases hv; exact ⟨_, rfl⟩
    · cases hv; exact ⟨_, rfl⟩
    · cases h
theorem res_run (hT : TabOk P tab) {B : Base P} {σ : St} {a : Act} (h : SRel B μ σ a w) : ∀ (rs : List ResultVar) {q : Prop} {l : List AV}, aRes tab σ rs = some (q, l) → q →
    ∃ vs, (rs.mapM fun x => (match x with | .tmp t => pure (a.tmps.getD t undef) | .cell c t => do loadVar t (← asAddr (a.tmps.getD c undef)) : Sem Value)).run P w = .ok vs w ∧ RVs (OO B.X σ.H μ) w μ l vs
  | [], q, l, hl, hq => by
    simp only [aRes] at hl; injection hl with hl; injection hl with _ e2; subst e2
    exact ⟨[], by simp, RVs.nil⟩
  | .tmp t :: rs, q, l, hl, hq => by
    simp only [aRes] at hl
    split at hl
    · rename_i q' l' hl'
      injection hl with hl; injection hl with e1 e2; subst e1 e2
      obtain ⟨vs, h1, h2⟩ := res_run hT h rs hl' hq
      exact ⟨_ :: vs, by rw [List.mapM_cons]; simp only [Sem.run_bind, Sem.run_pure, Result.andThen_ok, h1]; rfl, .cons (h.ev (.tmp t)) h2⟩
    · cases hl
  | .cell c t :: rs, q, l, hl, hq => by
    simp only [aRes] at hl
    split at hl
    · rename_i q1 x q2 l' hx hl'
      injection hl with hl; injection hl with e1 e2; subst e1 e2
      obtain ⟨vs, h1, h2⟩ := res_run hT h rs hl' hq.2
      have hc := h.ev (.tmp c)
      obtain ⟨u, h3, h4⟩ := load_sound hT hx hq.1 h.H hc
      obtain ⟨ad, had⟩ := aLoad_ptr hx hc
      simp only [Act.eval] at had h3
      rw [had] at h3
      simp only [Instr.loadAt, Instr.sureAddr, Sem.run_bind, Sem.run_pure, Result.andThen_ok] at h3
      refine ⟨u :: vs, ?_, .cons h4 h2⟩
      have hasd : asAddr (.pointer (some ad)) = (pure ad : Sem Addr) := rfl
      rw [List.mapM_cons]
      simp only [Sem.run_bind, had, hasd, Sem.run_pure, Result.andThen_ok, h3, h1]
    · cases hl
theorem resOf_rv : ∀ {l : List AV} {vs : List Value}, RVs O w μ l vs → RV O w μ (resOf l) (if h : vs.toArray.size = 1 then vs.toArray[0] else .tuple vs.toArray)
  | [], vs, h => by
    obtain rfl := h.unnil
    rw [dif_neg (by simp)]
    exact .tup (vs := []) rfl (fun j a v h => by simp at h)
  | [x], vs, h => by
    obtain ⟨v, us, rfl, g1, g2⟩ := h.uncons
    obtain rfl := g2.unnil
    simpa [resOf] using g1
  | x :: y :: l, vs, h => by
    obtain ⟨v, us, rfl, g1, g2⟩ := h.uncons
    obtain ⟨v2, us2, rfl, g3, g4⟩ := g2.uncons
    rw [dif_neg (by simp)]
    exact .tup h.1 h.2
theorem results_run (hT : TabOk P tab) {B : Base P} {σ : St} {a : Act} (h : SRel B μ σ a w) {fn : Func} {q : Prop} {l : List AV} (hl : aRes tab σ fn.results.toList = some (q, l)) (hq : q) :
    ∃ vs : List Value, (results fn a.tmps).run P w = .ok (if h : vs.toArray.size = 1 then vs.toArray[0] else .tuple vs.toArray) w ∧ RVs (OO B.X σ.H μ) w μ l vs := by
  obtain ⟨vs, h1, h2⟩ := res_run hT h _ hl hq
  have hrun : (results fn a.tmps).run P w = .ok (if h : vs.toArray.size = 1 then vs.toArray[0] else .tuple vs.toArray) w := by
    unfold results
    rw [Sem.run_bind, Array.mapM_eq_mapM_toList, Sem.run_map]
    erw [h1]
    rfl
  exact ⟨vs, hrun, h2⟩
def RetP (tab : Tab) (rs : List ResultVar) (K : AV → List AObj → List Nat → Prop) : Exit → St → Prop
  | .normal, σ | .ret, σ => ∃ q l, aRes tab σ rs = some (q, l) ∧ q ∧ ∃ l' H', Tells ⟨l, σ.H, σ.fg, σ.nb⟩ ⟨l', H', σ.fg, σ.nb⟩ ∧ K (resOf l') H' σ.fg
  | _, _ => False
theorem SRel.down {B : Base P} {X' : Nat → Prop} {σ : St} {a : Act} (hg : Grows B X') (h : SRel (B.at_ X') μ σ a w) (he : Ex B μ σ.nb a.defers w) : SRel B μ σ a w := by
  have hoo : ∀ {H : List AObj} {μ : Mu} b, OO B.X H μ b → OO X' H μ b := fun b hb => hb.imp (hg.le b) id
  have up : ∀ {w : World} {H : List AObj} {μ ν : Mu} {x : AV} {v : Value}, RV (OO X' H μ) w ν x v → RV (OO B.X H μ) w ν x v := fun {w H μ ν x v} hx => hx.mono (fun b _ hb => hoo b hb) (fun _ _ _ => rfl) ν fun _ _ h => h
  refine ⟨h.size, fun t x v hx hv => up (h.slot t x v hx hv), ⟨h.H.dom, h.H.inj, fun i b m hi => ⟨(h.H.lt i b m hi).1, fun hx => (h.H.lt i b m hi).2 (hg.le b hx)⟩, fun i o hi hs => (h.H.obj i o hi hs).mono (fun b _ hb => hoo b hb) (fun _ _ _ => rfl) (fun _ _ h => h) fun _ _ _ => rfl, fun b hx => h.H.xlt b (hg.le b hx), h.H.gl.step (Nat.le_refl _) (fun _ _ _ _ => rfl) (fun b hb => .inl (hg.le b hb)) fun i b m hi => .inl ⟨i, m, hi⟩⟩, he, h.chg, h.ext, h.nb, h.le, fun k x v hk hx => up (h.pres k x v hk ?_)⟩
  exact hx.mono (fun b hb hb' => hb'.imp (fun hx => (hg.new b hx).elim id fun h => absurd hb (Nat.not_lt.2 h)) id) (fun _ _ _ => rfl) _ fun _ _ h => h
theorem SRel.obj {B : Base P} {σ : St} {t : Array Value} {ds ds' : List Deferred} {D : Nat} {o o' : Obj} (h : SRel B μ σ { tmps := t, defers := ds } w) (hD : w.heap[D]? = some o) (hnc : o.isCells = false) (hm : ¬ InMu μ D) (hsz : B.w.heap.size ≤ D ∨ B.Y D)
    (hex : Ex B μ σ.nb ds' (w.putObj D o')) : SRel B μ σ { tmps := t, defers := ds' } (w.putObj D o') := by
  have hc : ∀ b, ∀ o1 u, w.cell? ⟨b, o1, none⟩ = some u → (w.putObj D o').cell? ⟨b, o1, none⟩ = some u := fun b o1 u hu => by
    by_cases hb : b = D
    · subst hb
      unfold World.cell? at hu
      simp only [hD] at hu
      cases o <;> first | (cases hnc; done) | (cases hu; done)
    · rw [World.cell?_of_block (w := w) (World.putObj_heap_other hb)]; exact hu
  have up : ∀ {ν : Mu} {x : AV} {v : Value}, RV (OO B.X σ.H μ) w ν x v → RV (OO B.X σ.H μ) (w.putObj D o') ν x v := fun {ν x v} hx => hx.monoC (fun _ _ h => h) (by simp) (fun b _ _ => hc b) ν fun _ _ h => h
  refine ⟨h.size, fun k x v hx hv => up (h.slot k x v hx hv), ⟨h.H.dom, h.H.inj, fun i b m hi => by simpa using h.H.lt i b m hi, fun i o1 hi hs => (h.H.obj i o1 hi hs).monoC (fun _ _ h => h) (by simp) (fun b _ _ => hc b) fun b m hb => World.putObj_heap_other (by rintro rfl; exact hm ⟨i, m, hb⟩), fun b hx => by simpa using h.H.xlt b hx, h.H.gl.stepC (by simp) (fun b _ _ _ => hc b) (fun _ h => .inl h) fun i b m hi => .inl ⟨i, m, hi⟩⟩, hex,
    ⟨h.chg.os, h.chg.tape, h.chg.output, by simpa using h.chg.size, fun k hk hn hy => (World.putObj_heap_other (by rintro rfl; exact hsz.elim (fun h => by omega) hy)).trans (h.chg.block k hk hn hy)⟩, h.ext, h.nb, h.le, fun k x v hk hx => up (h.pres k x v hk hx)⟩
/-- The marks are shut, one after the other. -/
theorem leaves_marks {B : Base P} {σ : St} {fn : Func} {t : Array Value} {R : Ending → World → Prop} : ∀ (ds : List Deferred) {w : World}, SRel B μ σ { tmps := t, defers := ds } w →
    (∀ w', SRel B μ σ { tmps := t, defers := [] } w' → ∃ v, (results fn t).run P w' = .ok v w' ∧ R (.returned v) w') → LeavesInM Fence.wide 0 P fn t R ds .returning w
  | [], w, h, hk => hk w h
  | d :: ds, w, h, hk => by
    obtain ⟨D, hd, h2, h3, h4, h5⟩ := h.df.marks d (by simp)
    subst hd
    have hap := List.pairwise_cons.1 h.df.apart
    refine ⟨by simp, .inl ⟨D, _, rfl, run_takeDeferred h2, leaves_marks ds (h.obj h2 rfl h3 (.inl h5) ⟨h.df.sp, h.df.ok, h.df.ok.keep _ _ _ _ w _ _ h.df.jr ⟨rfl, rfl, rfl, by simp, fun k hk hn => World.putObj_heap_other (by rintro rfl; exact hn (.inr (by simp)))⟩ fun k hk => ?_, fun d' hd' => ?_, hap.2, fun h0 => (by have := h.df.nm h0; cases this), h.df.xy, h.df.triv, fun D' o ho => ?_⟩) hk⟩⟩
    · rcases hk with ⟨i, m, hi⟩ | hk
      · exact ⟨.inl (.inl ⟨i, m, hi⟩), (h.H.lt i k m hi).2, by simpa using (h.H.lt i k m hi).1⟩
      · obtain ⟨D', e1, e2, e3, e4, e5⟩ := h.df.marks _ (List.mem_cons_of_mem _ hk)
        injection e1 with e1
        injection e1 with e1
        subst e1
        exact ⟨.inl (.inr (List.mem_cons_of_mem _ hk)), e4, by simpa using (Array.getElem?_eq_some_iff.1 e2).1⟩
    · obtain ⟨D', e1, e2, e3, e4, e5⟩ := h.df.marks d' (List.mem_cons_of_mem _ hd')
      refine ⟨D', e1, (World.putObj_heap_other ?_).trans e2, e3, e4, e5⟩
      rintro rfl
      exact hap.1 d' hd' e1.symm
    · obtain ⟨e1, e2, e3, e4⟩ := h.df.kp D' o ho
      exact ⟨(World.putObj_heap_other (by rintro rfl; omega)).trans e1, e2, e3, e4⟩
/-- A function, out of its code. -/
theorem acall_of (hT : TabOk P tab) {f : FuncId} {fn : Func} {c : Code} (hf : P.funcs[f]? = some fn) (hb : fn.body = some c) {args : List AV} {K : AV → List AObj → List Nat → Prop}
    (h : AW P none c (RetP tab fn.results.toList K) ⟨args ++ List.replicate (fn.ntmps - args.length) (.lit undef), H, [], ⟨H.length, 0, false, none, true⟩⟩) : ACall P f args H K := by
  intro w X μ vs hH hargs
  refine callsIn_wide.1 (callsIn_of_wp_marks (F := Fence.wide) (n := 0) hf hb trivial ?_)
  let B : Base P := ⟨w, X, μ, H, fun _ => False, none, fun _ _ _ _ _ => True, none⟩
  have hr : SRel B μ ⟨args ++ List.replicate (fn.ntmps - args.length) (.lit undef), H, [], ⟨H.length, 0, false, none, true⟩⟩ { tmps := vs.toArray ++ Array.replicate (fn.ntmps - vs.toArray.size) undef, defers := [] } w := by
    refine ⟨by simp [hargs.1], fun t x v hx hv => ?_, hH, ⟨rfl, ⟨fun _ _ _ _ _ _ _ _ _ _ => trivial, fun l xs n h => by cases h⟩, trivial, fun d hd => by simp at hd, .nil, fun _ => rfl, fun h => (h rfl).elim, fun _ _ _ _ _ _ => trivial, fun D o h => by cases h⟩, ⟨rfl, rfl, rfl, Nat.le_refl _, fun _ _ _ _ => rfl⟩, Ext.refl _ _, rfl, Nat.le_refl _, fun k x v _ hx => hx⟩
    by_cases hlt : t < args.length
    · rw [List.getElem?_append_left hlt] at hx
      rw [Array.getElem?_append_left (by simpa [← hargs.1] using hlt)] at hv
      exact hargs.2 t x v hx (by simpa using hv)
    · rw [List.getElem?_append_right (by omega)] at hx
      rw [Array.getElem?_append_right (by simp [← hargs.1]; omega)] at hv
      rw [List.getElem?_replicate] at hx
      rw [Array.getElem?_replicate] at hv
      split at hx
      · injection hx with hx; subst hx
        split at hv
        · injection hv with hv; subst hv; exact .lit _
        · cases hv
      · cases hx
  refine wpIn_mono (h B μ _ w hr) fun e a' w' ⟨σ', h1, μ', X', hg, h2⟩ => ?_
  have h2 : SRel B μ' σ' a' w' := h2.down hg ⟨h2.df.sp, ⟨fun _ _ _ _ _ _ _ _ _ _ => trivial, fun l xs n h => by cases h⟩, trivial, fun d hd => (let ⟨D, e1, e2, e3, e4, e5⟩ := h2.df.marks d hd; ⟨D, e1, e2, e3, fun hx => e4 (hg.le D hx), e5⟩), h2.df.apart, h2.df.nm, fun h => (h rfl).elim, fun _ _ _ _ _ _ => trivial, fun D o h => by cases h⟩
  have fin : (∃ q l, aRes tab σ' fn.results.toList = some (q, l) ∧ q ∧ ∃ l' H', Tells ⟨l, σ'.H, σ'.fg, σ'.nb⟩ ⟨l', H', σ'.fg, σ'.nb⟩ ∧ K (resOf l') H' σ'.fg) → LeavesInM Fence.wide 0 P fn a'.tmps (fun e w' =>
      ∃ v' r H' fg μ', e = .returned v' ∧ K r H' fg ∧ HRel μ' X H' w' ∧ RV (OO X H' μ') w' μ' r v' ∧ Chg μ w w' ∧ Ext μ w μ' ∧ H.length ≤ H'.length ∧ ∀ k x u, k ≤ H.length → RV (OO X H μ) w (upto k μ) x u → RV (OO X H' μ') w' (upto k μ') (fgs (fgk k fg) x) u) a'.defers .returning w' := by
    rintro ⟨q, l, g1, g2, l', H1, gt, g3⟩
    refine leaves_marks a'.defers h2 fun w' h2 => ?_
    obtain ⟨vs, g4, g5⟩ := results_run hT h2 g1 g2
    obtain ⟨μ1, h3⟩ := gt P B μ' { tmps := vs.toArray, defers := [] } w' ⟨by simpa using g5.1, fun t x v hx hv => g5.2 t x v hx (by simpa using hv), h2.H, h2.df, h2.chg, h2.ext, h2.nb, h2.le, h2.pres⟩
    have hnb : σ'.nb.n = H.length := h2.nb
    have hlv : RVs (OO X H1 μ1) w' μ1 l' vs := ⟨by simpa using h3.size, fun j x v hx hv => h3.slot j x v hx (by simpa using hv)⟩
    refine ⟨_, g4, _, resOf l', H1, σ'.fg, μ1, rfl, g3, h3.H, resOf_rv hlv, ⟨h3.chg.os, h3.chg.tape, h3.chg.output, h3.chg.size, fun k hk hn => h3.chg.block k hk hn id⟩, h3.ext, by have := h3.le; simp only at this; omega, fun k x u hk hx => h3.pres k x u (by simp only; omega) hx⟩
  cases e <;> simp only [RetP] at h1 <;> first | exact h1.elim | exact fin h1
end Go.Proofs.YthcoccoanpmhgaaDoor
