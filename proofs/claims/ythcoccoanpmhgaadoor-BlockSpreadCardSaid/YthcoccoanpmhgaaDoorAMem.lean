/- Memory of one's own: a new object, an object that is written; what was known beside it stays known. -/
import Derived.Test.YthcoccoanpmhgaaDoorAPure5
namespace Go.Proofs.YthcoccoanpmhgaaDoor
open Go.RowKit
set_option linter.unusedVariables false
set_option linter.unusedSimpArgs false
set_option linter.unusedSectionVars false
variable {P : Program} {tab : Tab} {X : Nat → Prop} {H H' : List AObj} {μ μ' : Mu} {w w' : World} {O O' : Nat → Prop}

/-- A value without what names object id. -/
def forget (id : Nat) : Nat → AV → AV
  | 0, _ => .junk
  | n + 1, a => match a with
    | .row i sz off k c => match Nat.beq i id with | true => .junk | false => .row i sz off k c
    | .ptr i sz k o => match Nat.beq i id with | true => .junk | false => .ptr i sz k o
    | .agg cs => .agg (cs.map (forget id n))
    | .tup cs => .tup (cs.map (forget id n))
    | .fn f a b => .fn f (a.map (forget id n)) (b.map (forget id n))
    | .iface t a => .iface t (forget id n a)
    | a => a
def idfree : Nat → AV → Bool
  | 0, _ => false
  | n + 1, a => match a with
    | .row .. | .ptr .. => false
    | .agg cs | .tup cs => cs.all (idfree n)
    | .fn _ a b => a.all (idfree n) && b.all (idfree n)
    | .iface _ a => idfree n a
    | _ => true
def oneA : AV → Bool
  | .lit x => x.oneCell'
  | .junk | .agg _ | .arr .. | .tup _ => false
  | _ => true
theorem oneA_one {a : AV} {v : Value} (h : oneA a = true) (hv : RV O w μ a v) : v.oneCell' = true := by
  cases hv <;> simp only [oneA, Bool.false_eq_true] at h <;> first | rfl | exact h
theorem idfree_rv : ∀ (n : Nat) {a : AV} {v : Value}, idfree n a = true → RV O w μ a v → RV O w noMu a v
  | 0, _, _, h, _ => by cases h
  | n + 1, a, v, h, hv => by
    cases hv with
    | junk => exact .junk _
    | lit => exact .lit _
    | agg h1 h2 => exact .agg h1 fun j a v ha hv => idfree_rv n (List.all_eq_true.1 h _ (List.mem_of_getElem? ha)) (h2 j a v ha hv)
    | arr a1 a2 a3 a4 => exact .arr a1 a2 a3 a4
    | tup h1 h2 => exact .tup h1 fun j a v ha hv => idfree_rv n (List.all_eq_true.1 h _ (List.mem_of_getElem? ha)) (h2 j a v ha hv)
    | sl a0 a1 a2 a3 a4 a5 a6 a7 a8 => exact .sl a0 a1 a2 a3 a4 a5 a6 a7 a8
    | rowNil | row | rowE | ptr => cases h
    | ip a1 a2 a3 a4 a5 => exact .ip a1 a2 a3 a4 a5
    | fn h1 h2 h3 h4 =>
      simp only [idfree, Bool.and_eq_true] at h
      exact .fn h1 (fun j a v ha hv => idfree_rv n (List.all_eq_true.1 h.1 _ (List.mem_of_getElem? ha)) (h2 j a v ha hv)) h3 fun j a v ha hv => idfree_rv n (List.all_eq_true.1 h.2 _ (List.mem_of_getElem? ha)) (h4 j a v ha hv)
    | iface h1 => exact .iface (idfree_rv n h h1)
/-- Memory turned: object id lies elsewhere; all else is as it was. -/
structure Moved (id : Nat) (O O' : Nat → Prop) (μ μ' : Mu) (w w' : World) : Prop where
  mu : ∀ i l, i ≠ id → μ i = some l → μ' i = some l
  oo : ∀ b, b < w.heap.size → O' b → O b
  blk : ∀ b, b < w.heap.size → ¬ O b → w'.heap[b]? = w.heap[b]?
theorem Moved.upto {id : Nat} (h : Moved id O O' μ μ' w w') (k : Nat) : Moved id O O' (upto k μ) (upto k μ') w w' := by
  refine ⟨fun i l hi hl => ?_, h.oo, h.blk⟩
  unfold Proofs.YthcoccoanpmhgaaDoor.upto at *
  split at hl
  · rename_i hlt; rw [if_pos hlt]; exact h.mu i l hi hl
  · cases hl
theorem forget_rv {id : Nat} (hm : Moved id O O' μ μ' w w') : ∀ (n : Nat) {a : AV} {v : Value}, RV O w μ a v → RV O' w' μ' (forget id n a) v
  | 0, a, v, _ => .junk v
  | n + 1, a, v, hv => by
    have fl : ∀ {cs : List AV} {vs : List Value}, (∀ (j : Nat) a v, cs[j]? = some a → vs[j]? = some v → RV O w μ a v) → ∀ (j : Nat) a v, (cs.map (forget id n))[j]? = some a → vs[j]? = some v → RV O' w' μ' a v := by
      intro cs vs h j a v ha hv
      simp only [List.getElem?_map, Option.map_eq_some_iff] at ha
      obtain ⟨a, ha, rfl⟩ := ha
      exact forget_rv hm n (h j a v ha hv)
    cases hv with
    | junk => exact .junk _
    | lit => exact .lit _
    | agg h1 h2 => exact .agg (by simpa using h1) (fl h2)
    | tup h1 h2 => exact .tup (by simpa using h1) (fl h2)
    | arr a1 a2 a3 a4 => exact .arr a1 a2 a3 fun k j a v hk ha hv => (a4 k j a v hk ha hv).mono hm.oo hm.blk _ fun _ _ h => h
    | sl a0 a1 a2 a3 a4 a5 a6 a7 a8 => exact (RV.sl (μ := noMu) a0 a1 a2 a3 a4 a5 a6 a7 a8).mono hm.oo hm.blk _ fun _ _ h => by cases h
    | ip a1 a2 a3 a4 a5 => exact (RV.ip (μ := noMu) a1 a2 a3 a4 a5).mono hm.oo hm.blk _ fun _ _ h => by cases h
    | rowNil h hc =>
      simp only [forget]
      split
      · exact .junk _
      · rename_i hne; exact .rowNil (hm.mu _ _ (by rintro rfl; simp at hne) h) hc
    | row h h1 h2 h3 h4 =>
      simp only [forget]
      split
      · exact .junk _
      · rename_i hne; exact .row (hm.mu _ _ (by rintro rfl; simp at hne) h) h1 h2 h3 h4
    | rowE h h1 h2 =>
      simp only [forget]
      split
      · exact .junk _
      · rename_i hne; exact .rowE (hm.mu _ _ (by rintro rfl; simp at hne) h) h1 h2
    | ptr h =>
      simp only [forget]
      split
      · exact .junk _
      · rename_i hne; exact .ptr (hm.mu _ _ (by rintro rfl; simp at hne) h)
    | fn h1 h2 h3 h4 => exact .fn (by simpa using h1) (fl h2) (by simpa using h3) (fl h4)
    | iface h1 => exact .iface (forget_rv hm n h1)
def forgetObj (id : Nat) (o : AObj) : AObj := match o.pure with | true => o | false => { o with f := fun k => (o.f k).map (forget id 4) }
theorem forgetObj_st (id : Nat) (o : AObj) : (forgetObj id o).st = o.st := by unfold forgetObj; split <;> rfl

/-- A new object. -/
theorem HRel.new (hH : HRel μ X H w) {o : AObj} {m : Nat} {cur : Array Value} (hz : 0 < o.sz) (hsz : cur.size = m * o.sz) (hm : m ≤ maxLen) (hn : o.n ≤ m) (h1 : ∀ (k j : Nat) v, k < o.n → j < o.sz → cur[k * o.sz + j]? = some v → v.oneCell' = true)
    (hf : ∀ k, k < o.n → (o.f k).length = o.sz) (hc : ∀ (k j : Nat) a v, k < o.n → (o.f k)[j]? = some a → cur[k * o.sz + j]? = some v → RV (OO X H μ) w (if o.pure then noMu else μ) a v) :
    let μ' : Mu := fun i => if i = H.length then some (some (w.heap.size, m)) else μ i
    HRel μ' X (H ++ [o]) (w.alloc (.cells cur o.T)) ∧ (∀ i l, μ i = some l → μ' i = some l) ∧ Ext μ w μ' ∧ Chg μ w (w.alloc (.cells cur o.T)) ∧
      ∀ (k : Nat) {a : AV} {v : Value}, RV (OO X H μ) w (upto k μ) a v → RV (OO X (H ++ [o]) μ') (w.alloc (.cells cur o.T)) (upto k μ') a v := by
  intro μ'
  have hmu : ∀ i l, μ i = some l → μ' i = some l := fun i l hi => by
    have := hH.dom i l hi
    simp only [μ']; rw [if_neg (by omega)]; exact hi
  have hb : Below w.heap.size w (w.alloc (.cells cur o.T)) := (Below.refl _ _).alloc (Nat.le_refl _) _
  have hext : Ext μ w μ' := fun i b m1 hi => by
    simp only [μ'] at hi
    split at hi
    · injection hi with hi; injection hi with hi; injection hi with e1 e2
      exact .inr (by omega)
    · exact .inl ⟨i, m1, hi⟩
  have hOO : ∀ b, b < w.heap.size → OO X (H ++ [o]) μ' b → OO X H μ b := by
    rintro b hlt (hx | ⟨i, o', m', hi, hs, hm'⟩)
    · exact .inl hx
    · simp only [μ'] at hm'
      split at hm'
      · injection hm' with hm'; injection hm' with hm'; injection hm' with e1 e2; omega
      · have := hH.dom i _ hm'
        rw [List.getElem?_append_left this] at hi
        exact .inr ⟨i, o', m', hi, hs, hm'⟩
  have hrv : ∀ {μ₁ : Mu} {a : AV} {v : Value}, RV (OO X H μ) w μ₁ a v → ∀ μ₂ : Mu, (∀ i l, μ₁ i = some l → μ₂ i = some l) → RV (OO X (H ++ [o]) μ') (w.alloc (.cells cur o.T)) μ₂ a v := fun h μ₂ hh => h.mono hOO (fun b hl _ => hb.block b hl) _ hh
  refine ⟨⟨fun i l hi => ?_, fun i j b m1 m2 hi hj => ?_, fun i b m1 hi => ?_, fun i o' hi hs => ?_, fun b hx => by have := hH.xlt b hx; simp; omega, hH.gl.step hb.size (fun b hlt _ _ => hb.block b hlt) (fun _ h => .inl h) fun i b m1 hi => (hext i b m1 hi).imp id .inr⟩, hmu, hext, .of_below hb, fun k a v h => hrv h _ (upto_mono hmu)⟩
  · simp only [μ'] at hi
    split at hi
    · subst i; simp
    · have := hH.dom i l hi; simp; omega
  · simp only [μ'] at hi hj
    split at hi <;> split at hj
    · omega
    · injection hi with hi; injection hi with hi; injection hi with e1 e2
      have := (hH.lt j b m2 hj).1; omega
    · injection hj with hj; injection hj with hj; injection hj with e1 e2
      have := (hH.lt i b m1 hi).1; omega
    · exact hH.inj i j b m1 m2 hi hj
  · simp only [μ'] at hi
    split at hi
    · injection hi with hi; injection hi with hi; injection hi with e1 e2
      subst e1
      exact ⟨by simp, fun hx => by have := hH.xlt _ hx; omega⟩
    · have := hH.lt i b m1 hi
      exact ⟨by simp; omega, this.2⟩
  · by_cases hlt : i < H.length
    · rw [List.getElem?_append_left hlt] at hi
      exact (hH.obj i o' hi hs).mono hOO (fun b hl _ => hb.block b hl) hmu fun b m1 h1 => hb.block b (hH.lt i b m1 h1).1
    · have he : i = H.length := by
        have := (List.getElem?_eq_some_iff.1 hi).1
        simp at this; omega
      subst he
      simp at hi
      subst hi
      refine ⟨hz, .inr ⟨w.heap.size, m, cur, by simp [μ'], heap_alloc_new w _, hsz, hm, hn, h1, hf, fun k j a v hk ha hv => hrv (hc k j a v hk ha hv) _ fun i l hi => ?_⟩⟩
      split
      · rename_i hp; rw [if_pos hp] at hi; exact hi
      · rename_i hp; rw [if_neg hp] at hi; exact hmu i l hi

/-- Object id, which may be written, is written, and perhaps lies elsewhere now. -/
structure Puts (μ μ' : Mu) (X : Nat → Prop) (H H' : List AObj) (w w' : World) (id : Nat) : Prop where
  live : ∃ o, H[id]? = some o ∧ o.st = 0
  len : H'.length = H.length
  st : ∀ i o', i ≠ id → H'[i]? = some o' → ∃ o1, H[i]? = some o1 ∧ o'.st = o1.st
  mu : ∀ i, i ≠ id → μ' i = μ i
  mid : ∀ l, μ' id = some l → ∀ b m, l = some (b, m) → b < w'.heap.size ∧ ((∃ m', μ id = some (some (b, m'))) ∨ w.heap.size ≤ b)
  size : w.heap.size ≤ w'.heap.size
  os : w'.os = w.os
  tape : w'.tape = w.tape
  output : w'.output = w.output
  blk : ∀ b, b < w.heap.size → (∀ m, μ id ≠ some (some (b, m))) → w'.heap[b]? = w.heap[b]?
theorem Puts.oo {id : Nat} (h : Puts μ μ' X H H' w w' id) : ∀ b, b < w.heap.size → OO X H' μ' b → OO X H μ b := by
  rintro b hlt (hx | ⟨i, o, m, hi, hs, hm⟩)
  · exact .inl hx
  · by_cases he : i = id
    · subst he
      obtain ⟨o0, h0, hs0⟩ := h.live
      rcases (h.mid _ hm b m rfl).2 with ⟨m', hm'⟩ | hge
      · exact .inr ⟨i, o0, m', h0, hs0, hm'⟩
      · omega
    · obtain ⟨o1, h1, hs1⟩ := h.st i o he hi
      exact .inr ⟨i, o1, m, h1, by rw [← hs1]; exact hs, by rw [← h.mu i he]; exact hm⟩
theorem Puts.moved {id : Nat} (h : Puts μ μ' X H H' w w' id) : Moved id (OO X H μ) (OO X H' μ') μ μ' w w' :=
  ⟨fun i l hi hl => by rw [h.mu i hi]; exact hl, h.oo, fun b hlt hn => h.blk b hlt fun m hm => by
    obtain ⟨o0, h0, hs0⟩ := h.live
    exact hn (.inr ⟨id, o0, m, h0, hs0, hm⟩)⟩
theorem Puts.ext {id : Nat} (h : Puts μ μ' X H H' w w' id) : Ext μ w μ' := fun i b m hi => by
  by_cases he : i = id
  · subst he
    exact (h.mid _ hi b m rfl).2.imp (fun ⟨m', hm'⟩ => ⟨i, m', hm'⟩) fun h => h
  · rw [h.mu i he] at hi; exact .inl ⟨i, m, hi⟩
theorem Puts.chg {id : Nat} (h : Puts μ μ' X H H' w w' id) : Chg μ w w' := ⟨h.os, h.tape, h.output, h.size, fun k hk hn => h.blk k hk fun m => hn id m⟩
theorem Puts.rel {id : Nat} (h : Puts μ μ' X H H' w w' id) (hH : HRel μ X H w) (hoth : ∀ i o', i ≠ id → H'[i]? = some o' → o'.st < 2 → ObjAt (OO X H' μ') w' μ' i o')
    (hnew : ∀ o', H'[id]? = some o' → o'.st < 2 → ObjAt (OO X H' μ') w' μ' id o') : HRel μ' X H' w' := by
  have hidlt : id < H.length := by obtain ⟨o, h0, _⟩ := h.live; exact (List.getElem?_eq_some_iff.1 h0).1
  refine ⟨fun i l hi => ?_, fun i j b m1 m2 hi hj => ?_, fun i b m hi => ?_, fun i o' hi hs => ?_, fun b hx => Nat.lt_of_lt_of_le (hH.xlt b hx) h.size, hH.gl.step h.size (fun b hlt _ hn => h.blk b hlt (hn id)) (fun _ h => .inl h) fun i b m hi => (h.ext i b m hi).imp (fun h => h) .inr⟩
  · by_cases he : i = id
    · subst he; rw [h.len]; exact hidlt
    · rw [h.mu i he] at hi; rw [h.len]; exact hH.dom i l hi
  · by_cases he : i = id <;> by_cases hf : j = id
    · omega
    · subst he
      rw [h.mu j hf] at hj
      rcases (h.mid _ hi b m1 rfl).2 with ⟨m', hm'⟩ | hge
      · exact hH.inj _ _ _ _ _ hm' hj
      · have := (hH.lt j b m2 hj).1; omega
    · subst hf
      rw [h.mu i he] at hi
      rcases (h.mid _ hj b m2 rfl).2 with ⟨m', hm'⟩ | hge
      · exact hH.inj _ _ _ _ _ hi hm'
      · have := (hH.lt i b m1 hi).1; omega
    · rw [h.mu i he] at hi; rw [h.mu j hf] at hj
      exact hH.inj _ _ _ _ _ hi hj
  · by_cases he : i = id
    · subst he
      obtain ⟨h1, h2⟩ := h.mid _ hi b m rfl
      refine ⟨h1, fun hx => ?_⟩
      rcases h2 with ⟨m', hm'⟩ | hge
      · exact (hH.lt _ b m' hm').2 hx
      · have := hH.xlt b hx; omega
    · rw [h.mu i he] at hi
      have := hH.lt i b m hi
      exact ⟨Nat.lt_of_lt_of_le this.1 h.size, this.2⟩
  · by_cases he : i = id
    · subst he; exact hnew o' hi hs
    · exact hoth i o' he hi hs
/-- Written in place. -/
theorem Puts.others {id : Nat} (h : Puts μ μ X H H' w w' id) (hH : HRel μ X H w) (hH' : ∀ i, i ≠ id → H'[i]? = H[i]?) :
    ∀ i o', i ≠ id → H'[i]? = some o' → o'.st < 2 → ObjAt (OO X H' μ) w' μ i o' := fun i o' hi ho hs => by
  rw [hH' i hi] at ho
  refine (hH.obj i o' ho hs).mono h.oo h.moved.blk (fun _ _ h => h) fun b m hm => h.blk b (hH.lt i b m hm).1 fun m' hm' => hi (hH.inj _ _ _ _ _ hm hm')
/-- It may lie elsewhere now: what names it is forgotten. -/
theorem Puts.others' {id : Nat} (h : Puts μ μ' X H H' w w' id) (hH : HRel μ X H w) (hH' : ∀ i, i ≠ id → H'[i]? = (H[i]?).map (forgetObj id)) :
    ∀ i o', i ≠ id → H'[i]? = some o' → o'.st < 2 → ObjAt (OO X H' μ') w' μ' i o' := fun i o' hi ho hs => by
  rw [hH' i hi] at ho
  simp only [Option.map_eq_some_iff] at ho
  obtain ⟨o, ho, rfl⟩ := ho
  rw [forgetObj_st] at hs
  obtain ⟨hz, hob⟩ := hH.obj i o ho hs
  have e1 : (forgetObj id o).sz = o.sz := by unfold forgetObj; split <;> rfl
  have e2 : (forgetObj id o).n = o.n := by unfold forgetObj; split <;> rfl
  have e3 : (forgetObj id o).T = o.T := by unfold forgetObj; split <;> rfl
  refine ⟨by rw [e1]; exact hz, ?_⟩
  rcases hob with ⟨h1, h2⟩ | ⟨b, m, cur, h1, h2⟩
  · exact .inl ⟨h.moved.mu _ _ hi h1, by rw [e2]; exact h2⟩
  · refine .inr ⟨b, m, cur, h.moved.mu _ _ hi h1, ?_⟩
    have hb := h.blk b (hH.lt i b m h1).1 fun m' hm' => hi (hH.inj _ _ _ _ _ h1 hm')
    refine ⟨by rw [e3]; exact hb.trans h2.blk, by rw [e1]; exact h2.size, h2.le, by rw [e2]; exact h2.nle, by rw [e1, e2]; exact h2.one, ?_, ?_⟩
    · rw [e2]; intro k hk
      unfold forgetObj
      split <;> simp [h2.flen k hk]
    · rw [e1, e2]
      intro k j a v hk ha hv
      cases hp : o.pure with
      | true =>
        have : forgetObj id o = o := by unfold forgetObj; rw [hp]
        rw [this] at ha ⊢
        have := h2.cell k j a v hk ha hv
        rw [hp] at this ⊢
        exact this.mono h.oo h.moved.blk _ fun _ _ h => h
      | false =>
        have hfp : (forgetObj id o).pure = false := by unfold forgetObj; rw [hp]
        rw [hfp]
        unfold forgetObj at ha
        rw [hp] at ha
        simp only [List.getElem?_map, Option.map_eq_some_iff] at ha
        obtain ⟨c, hc, rfl⟩ := ha
        have := h2.cell k j c v hk hc hv
        rw [hp] at this
        exact forget_rv h.moved 4 this
end Go.Proofs.YthcoccoanpmhgaaDoor
