/- Functions that keep to themselves (APure): what they are given, and what they answer, is data; a call of one. -/
import Derived.Test.YthcoccoanpmhgaaDoorAWp3
namespace Go.Proofs.YthcoccoanpmhgaaDoor
open Go.RowKit
set_option linter.unusedVariables false
set_option linter.unusedSimpArgs false
set_option linter.unusedSectionVars false
variable {P : Program} {tab : Tab} {X : Nat → Prop} {H H' : List AObj} {μ μ' : Mu} {w w' : World} {O O' : Nat → Prop}

/-- The function f answers r of args, and makes the objects N (which r may name by 0, 1, ..). -/
def APure (P : Program) (f : FuncId) (args : List AV) (r : AV) (N : List AObj) : Prop := ACall P f args [] fun r' H' _ => r' = r ∧ H' = N

/-- Rows of one's own, read as slices that nobody writes: what they read as, and which objects these are. -/
def thawL (th : AV → Option (Prop × AV × List Nat)) : List AV → Option (Prop × List AV × List Nat)
  | [] => some (True, [], [])
  | a :: l => match th a, thawL th l with
    | some (q, x, u), some (q', xs, us) => some (q ∧ q', x :: xs, u ++ us)
    | _, _ => none
def thaw (H : List AObj) : Nat → AV → Option (Prop × AV × List Nat)
  | 0, _ => none
  | n + 1, a => match a with
    | .row i sz off k _ => match nth H i with
      | some ob => match ob.pure, Nat.blt ob.st 2, Nat.beq ob.sz sz with
        | true, true, true => some (off + k ≤ ob.n, .sl sz k false (match off with | 0 => ob.f | off => fun j => ob.f (off + j)), [i])
        | _, _, _ => none
      | none => none
    | .ptr i sz k o => match nth H i with
      | some ob => match ob.pure, Nat.blt ob.st 2, Nat.beq ob.sz sz with
        | true, true, true => some (k < ob.n ∧ o ≤ sz, .ip ((ob.f k).drop o), [i])
        | _, _, _ => none
      | none => none
    | .agg cs => match thawL (thaw H n) cs with | some (q, l, u) => some (q, .agg l, u) | none => none
    | .tup cs => match thawL (thaw H n) cs with | some (q, l, u) => some (q, .tup l, u) | none => none
    | .fn f xs ys => match thawL (thaw H n) xs, thawL (thaw H n) ys with | some (q, l, u), some (q', l', u') => some (q ∧ q', .fn f l l', u ++ u') | _, _ => none
    | .iface t x => match thaw H n x with | some (q, y, u) => some (q, .iface t y, u) | none => none
    | a => some (True, a, [])
def Less (O : Nat → Prop) (μ : Mu) (used : List Nat) (b : Nat) : Prop := O b ∧ ∀ i ∈ used, ∀ m, μ i ≠ some (some (b, m))
theorem Less.anti {O : Nat → Prop} {u u' : List Nat} (h : ∀ i ∈ u', i ∈ u) {b : Nat} (hb : Less O μ u b) : Less O μ u' b := ⟨hb.1, fun i hi m => hb.2 i (h i hi) m⟩
theorem RV.less {ν ν' : Mu} {u u' : List Nat} {a : AV} {v : Value} (h : RV (Less O μ u') w ν a v) (hu : ∀ i ∈ u', i ∈ u) (hn : ∀ i l, ν i = some l → ν' i = some l) : RV (Less O μ u) w ν' a v := h.mono (fun b _ hb => hb.anti hu) (fun _ _ _ => rfl) _ hn
theorem thawL_rv {th : AV → Option (Prop × AV × List Nat)} (hth : ∀ {a : AV} {q : Prop} {y : AV} {u : List Nat}, th a = some (q, y, u) → q → ∀ {v : Value}, RV (OO X H μ) w μ a v → RV (Less (OO X H μ) μ u) w noMu y v) :
    ∀ {l : List AV} {q : Prop} {ys : List AV} {u : List Nat}, thawL th l = some (q, ys, u) → q → ∀ {vs : List Value}, RVs (OO X H μ) w μ l vs → RVs (Less (OO X H μ) μ u) w noMu ys vs
  | [], q, ys, u, h, hq, vs, hv => by
    simp only [thawL] at h; injection h with h; injection h with _ h; injection h with e1 e2; subst e1 e2
    obtain rfl := hv.unnil
    exact .nil
  | a :: l, q, ys, u, h, hq, vs, hv => by
    simp only [thawL] at h
    split at h
    · rename_i q1 x u1 q2 xs u2 h1 h2
      injection h with h; injection h with e0 h; injection h with e1 e2; subst e0 e1 e2
      obtain ⟨v, us, rfl, g1, g2⟩ := hv.uncons
      have r1 := hth h1 hq.1 g1
      have r2 := thawL_rv hth h2 hq.2 g2
      exact .cons (r1.less (fun i hi => List.mem_append.2 (.inl hi)) fun _ _ h => h) ⟨r2.1, fun j a v ha hv => (r2.2 j a v ha hv).less (fun i hi => List.mem_append.2 (.inr hi)) fun _ _ h => h⟩
    · cases h
theorem thaw_rv (hH : HRel μ X H w) : ∀ (n : Nat) {a : AV} {q : Prop} {y : AV} {u : List Nat}, thaw H n a = some (q, y, u) → q → ∀ {v : Value}, RV (OO X H μ) w μ a v → RV (Less (OO X H μ) μ u) w noMu y v
  | 0, a, q, y, u, h, _, v, _ => by cases h
  | n + 1, a, q, y, u, h, hq, v, hv => by
    have same : ∀ {a : AV} {v : Value}, RV (OO X H μ) w noMu a v → RV (Less (OO X H μ) μ []) w noMu a v := fun h => h.mono (fun b _ hb => hb.1) (fun _ _ _ => rfl) _ fun _ _ h => h
    have ih := fun {a : AV} {q : Prop} {y : AV} {u : List Nat} (h : thaw H n a = some (q, y, u)) (hq : q) {v : Value} (hv : RV (OO X H μ) w μ a v) => thaw_rv hH n h hq hv
    cases hv with
    | junk => simp only [thaw] at h; injection h with h; injection h with _ h; injection h with e1 e2; subst e1 e2; exact .junk _
    | lit => simp only [thaw] at h; injection h with h; injection h with _ h; injection h with e1 e2; subst e1 e2; exact .lit _
    | arr a1 a2 a3 a4 => simp only [thaw] at h; injection h with h; injection h with _ h; injection h with e1 e2; subst e1 e2; exact same (.arr a1 a2 a3 a4)
    | sl a0 a1 a2 a3 a4 a5 a6 a7 a8 => simp only [thaw] at h; injection h with h; injection h with _ h; injection h with e1 e2; subst e1 e2; exact same (.sl a0 a1 a2 a3 a4 a5 a6 a7 a8)
    | ip a1 a2 a3 a4 a5 => simp only [thaw] at h; injection h with h; injection h with _ h; injection h with e1 e2; subst e1 e2; exact same (.ip a1 a2 a3 a4 a5)
    | ptr hm =>
      rename_i i sz k o b mb
      simp only [thaw] at h
      split at h
      · rename_i ob hob
        split at h
        · rename_i hpu hst hsz
          injection h with h; injection h with e0 h; injection h with e1 e2; subst e0 e1 e2
          rw [Nat.blt_eq] at hst
          obtain rfl := beq_t hsz
          obtain ⟨hz, cur, hin⟩ := hH.at_ hob hst hm
          obtain ⟨vs, g1, g2, g3, g4⟩ := elem_cells hz hin hq.1
          rw [hpu] at g1
          have g5 := g1.drop o
          refine .ip g5.1 (fun j a v ha hv => (g5.2 j a v ha hv).mono (fun b _ hb => hb.1) (fun _ _ _ => rfl) _ fun _ _ h => h) (fun hb => hb.2 i (by simp) mb hm) (hH.lt i b mb hm).1 fun j u hu => ?_
          rw [cell_of_row w b _ cur ob.T (0, 0) hin.blk, Nat.add_assoc]
          exact g3 _ u (by simpa using hu)
        · cases h
      · cases h
    | agg h1 h2 =>
      simp only [thaw] at h
      split at h
      · rename_i q1 l u1 hl
        injection h with h; injection h with e0 h; injection h with e1 e2; subst e0 e1 e2
        have := thawL_rv ih hl hq ⟨h1, h2⟩
        exact .agg this.1 this.2
      · cases h
    | tup h1 h2 =>
      simp only [thaw] at h
      split at h
      · rename_i q1 l u1 hl
        injection h with h; injection h with e0 h; injection h with e1 e2; subst e0 e1 e2
        have := thawL_rv ih hl hq ⟨h1, h2⟩
        exact .tup this.1 this.2
      · cases h
    | fn h1 h2 h3 h4 =>
      simp only [thaw] at h
      split at h
      · rename_i q1 l u1 q2 l2 u2 hl hl2
        injection h with h; injection h with e0 h; injection h with e1 e2; subst e0 e1 e2
        have r1 := thawL_rv ih hl hq.1 ⟨h1, h2⟩
        have r2 := thawL_rv ih hl2 hq.2 ⟨h3, h4⟩
        exact .fn r1.1 (fun j a v ha hv => (r1.2 j a v ha hv).less (fun i hi => List.mem_append.2 (.inl hi)) fun _ _ h => h) r2.1 (fun j a v ha hv => (r2.2 j a v ha hv).less (fun i hi => List.mem_append.2 (.inr hi)) fun _ _ h => h)
      · cases h
    | iface h1 =>
      simp only [thaw] at h
      split at h
      · rename_i q1 l u1 hl
        injection h with h; injection h with e0 h; injection h with e1 e2; subst e0 e1 e2
        exact .iface (ih hl hq h1)
      · cases h
    | rowNil hm hc =>
      simp only [thaw] at h
      split at h
      · rename_i ob hob
        split at h
        · rename_i hpu hst hsz
          injection h with h; injection h with e0 h; injection h with e1 e2; subst e0 e1 e2
          rw [Nat.blt_eq] at hst
          have hz : 0 < ob.sz := by rw [nth_eq] at hob; exact (hH.obj _ ob hob hst).1
          exact .sl (vs := []) (by simp) (Nat.le_refl _) (by unfold maxLen; omega) (fun h => by cases h) (by simp) (fun k hk => by omega) (fun k j a v hk => by omega) (by rw [← beq_t hsz]; exact hz) fun h => (h rfl).elim
        · cases h
      · cases h
    | rowE hm hc ho =>
      simp only [thaw] at h
      split at h
      · rename_i ob hob
        split at h
        · rename_i hpu hst hsz
          injection h with h; injection h with e0 h; injection h with e1 e2; subst e0 e1 e2
          rw [Nat.blt_eq] at hst
          have hz : 0 < ob.sz := by rw [nth_eq] at hob; exact (hH.obj _ ob hob hst).1
          exact .sl (vs := []) (by simp) (Nat.le_refl _) (by unfold maxLen; omega) (fun h => by cases h) (by simp) (fun k hk => by omega) (fun k j a v hk => by omega) (by rw [← beq_t hsz]; exact hz) fun h => (h rfl).elim
        · cases h
      · cases h
    | row hm hn hc hcap hend =>
      rename_i i sz off k b mb c cap
      simp only [thaw] at h
      split at h
      · rename_i ob hob
        split at h
        · rename_i hpu hst hsz
          injection h with h; injection h with e0 h; injection h with e1 e2; subst e0 e1 e2
          rw [Nat.blt_eq] at hst
          obtain rfl := beq_t hsz
          obtain ⟨hz, cur, hin⟩ := hH.at_ hob hst hm
          have hg : ∀ j, (match off with | 0 => ob.f | off => fun j => ob.f (off + j)) j = ob.f (off + j) := fun j => by cases off <;> simp
          have hsz : (off + k) * ob.sz ≤ cur.size := by rw [hin.size]; exact Nat.mul_le_mul_right _ (by have := hin.nle; omega)
          rw [Nat.add_mul] at hsz
          have hl : ((cur.toList.drop (off * ob.sz)).take (k * ob.sz)).length = k * ob.sz := by simp; omega
          have hget : ∀ (k' j : Nat) v, k' < k → j < ob.sz → ((cur.toList.drop (off * ob.sz)).take (k * ob.sz))[k' * ob.sz + j]? = some v → cur[(off + k') * ob.sz + j]? = some v := by
            intro k' j v hk hj hv
            rw [List.getElem?_take] at hv
            split at hv
            · rw [Nat.add_mul, Nat.add_assoc]; simpa using hv
            · cases hv
          refine .sl (vs := (cur.toList.drop (off * ob.sz)).take (k * ob.sz)) (fun u hu => ?_) hn (by have := hin.le; omega) (fun h => by cases h) hl (fun k' hk' => by rw [hg]; exact hin.flen _ (by omega)) (fun k' j a v hk' ha hv => ?_) hz fun hk0 => ⟨b, off * ob.sz, rfl, fun hb => hb.2 i (by simp) mb hm, fun j u hu => ?_⟩
          · obtain ⟨p, hp⟩ := List.getElem?_of_mem hu
            have hlt : p < k * ob.sz := by rw [← hl]; exact (List.getElem?_eq_some_iff.1 hp).1
            have hd := Nat.div_add_mod p ob.sz
            have hmod := Nat.mod_lt p hz
            have hlt2 : p / ob.sz < k := Nat.div_lt_of_lt_mul (by rw [Nat.mul_comm]; exact hlt)
            exact hin.one (off + p / ob.sz) (p % ob.sz) u (by omega) hmod (hget _ _ u hlt2 hmod (by rw [show p / ob.sz * ob.sz + p % ob.sz = p by rw [Nat.mul_comm]; exact hd]; exact hp))
          · rw [hg] at ha
            have hj : j < ob.sz := by rw [← hin.flen (off + k') (by omega)]; exact (List.getElem?_eq_some_iff.1 ha).1
            have := hin.cell (off + k') j a v (by omega) ha (hget k' j v hk' hj hv)
            rw [hpu] at this
            exact this.mono (fun b _ hb => hb.1) (fun _ _ _ => rfl) _ fun _ _ h => h
          · rw [cell_of_row w b _ cur ob.T (0, 0) hin.blk]
            rw [List.getElem?_take] at hu
            split at hu
            · simpa using hu
            · cases hu
        · cases h
      · cases h
/-- Objects that are shared from now on. -/
def share (used : List Nat) : Nat → List AObj → List AObj
  | _, [] => []
  | k, o :: l => (match used.any (Nat.beq k) with | true => { o with st := max o.st 1 } | false => o) :: share used (k + 1) l
theorem share_at (used : List Nat) : ∀ (l : List AObj) (k i : Nat), (share used k l)[i]? = (l[i]?).map fun o => match used.any (Nat.beq (k + i)) with | true => { o with st := max o.st 1 } | false => o
  | [], k, i => by simp [share]
  | o :: l, k, 0 => by simp [share]
  | o :: l, k, i + 1 => by
    simp only [share, List.getElem?_cons_succ]
    rw [share_at used l (k + 1) i, show k + 1 + i = k + (i + 1) by omega]
theorem share_len (used : List Nat) : ∀ (l : List AObj) (k : Nat), (share used k l).length = l.length
  | [], k => rfl
  | o :: l, k => by simp [share, share_len used l (k + 1)]
abbrev sh (n : Nat) : Nat → Option Nat := fun i => some (i + n)
/-- The call of such a function, with whatever objects: what of one's own it was given to read is shared from then on. -/
theorem APure.at_ {f : FuncId} {args args' : List AV} {r : AV} {N : List AObj} (h : APure P f args' r N) {q : Prop} {used : List Nat} (ht : thawL (thaw H 4) args = some (q, args', used)) (hq : q) :
    ACall P f args H fun r' H' fg => r' = ren (sh H.length) 4 r ∧ H' = share used 0 H ++ N.map (renObj (sh H.length)) ∧ fg = [] := by
  intro w X μ vs hH hv
  have hargs := thawL_rv (thaw_rv hH 4) ht hq hv
  have hX1 : ∀ b, Less (OO X H μ) μ used b → b < w.heap.size := by
    rintro b ⟨hx | ⟨i, o, m, hi, hs, hm⟩, _⟩
    · exact hH.xlt b hx
    · exact (hH.lt i b m hm).1
  have hH0 : HRel noMu (Less (OO X H μ) μ used) [] w := ⟨fun i l h => (by cases h), fun i j b m m' h => (by cases h), fun i b m h => (by cases h), fun i o h => (by simp at h), hX1, hH.gl.step (Nat.le_refl _) (fun _ _ _ _ => rfl) (fun b hb => hb.1.elim .inl fun ⟨i, o, m, _, _, hm⟩ => .inr (.inl ⟨i, m, hm⟩)) fun i b m h => (by cases h)⟩
  have hoo0 : ∀ b, OO (Less (OO X H μ) μ used) [] noMu b ↔ Less (OO X H μ) μ used b := fun b => ⟨fun hb => hb.elim id fun ⟨i, o, m, hi, _⟩ => (by simp at hi), fun hb => .inl hb⟩
  refine (h w (Less (OO X H μ) μ used) noMu vs hH0 ⟨hargs.1, fun j a v ha hv => (hargs.2 j a v ha hv).mono (fun b _ hb => (hoo0 b).1 hb) (fun _ _ _ => rfl) _ fun _ _ h => h⟩).mono fun e w' he => ?_
  obtain ⟨v, r', H1, fg1, μ1, rfl, ⟨rfl, rfl⟩, g1, g2, g3, g4, _, _⟩ := he
  have hb : Below w.heap.size w w' := g3.below
  let μ' : Mu := fun i => if i < H.length then μ i else μ1 (i - H.length)
  have hmu : ∀ i l, μ i = some l → μ' i = some l := fun i l hi => by simp only [μ']; rw [if_pos (hH.dom i l hi)]; exact hi
  have hmu1 : ∀ i l, μ1 i = some l → μ' (i + H.length) = some l := fun i l hi => by simp only [μ']; rw [if_neg (by omega)]; simpa using hi
  have hnew : ∀ i b m, μ1 i = some (some (b, m)) → w.heap.size ≤ b := fun i b m hi => by
    rcases g4 i b m hi with ⟨j, m', hj⟩ | h
    · cases hj
    · exact h
  have hext : Ext μ w μ' := fun i b m hi => by
    simp only [μ'] at hi
    split at hi
    · exact .inl ⟨i, m, hi⟩
    · exact .inr (hnew _ b m hi)
  let H2 : List AObj := share used 0 H ++ H1.map (renObj (sh H.length))
  have hobj : ∀ i o, H2[i]? = some o → (∃ o1, i < H.length ∧ H[i]? = some o1 ∧ o = (match used.any (Nat.beq i) with | true => { o1 with st := max o1.st 1 } | false => o1)) ∨ ∃ o1, H.length ≤ i ∧ H1[i - H.length]? = some o1 ∧ o = renObj (sh H.length) o1 := by
    intro i o hi
    by_cases hlt : i < H.length
    · left
      rw [List.getElem?_append_left (by rw [share_len]; exact hlt), share_at] at hi
      simp only [Option.map_eq_some_iff, Nat.zero_add] at hi
      obtain ⟨o1, h1, h2⟩ := hi
      exact ⟨o1, hlt, h1, h2.symm⟩
    · right
      rw [List.getElem?_append_right (by rw [share_len]; omega), share_len] at hi
      simp only [List.getElem?_map, Option.map_eq_some_iff] at hi
      obtain ⟨o1, h1, h2⟩ := hi
      exact ⟨o1, by omega, h1, h2.symm⟩
  have hooEq : ∀ b, OO X H2 μ' b → OO (Less (OO X H μ) μ used) H1 μ1 b := by
    rintro b (hx | ⟨i, o, m, hi, hs, hm⟩)
    · exact .inl ⟨.inl hx, fun i hi m hm => (hH.lt i b m hm).2 hx⟩
    · rcases hobj i o hi with ⟨o1, hlt, h1, h2⟩ | ⟨o1, hge, h1, rfl⟩
      · simp only [μ'] at hm
        rw [if_pos hlt] at hm
        left
        have hnu : used.any (Nat.beq i) = false := by
          cases hc : used.any (Nat.beq i) with
          | false => rfl
          | true => rw [hc] at h2; simp only at h2; rw [h2] at hs; simp at hs <;> omega
        rw [hnu] at h2
        simp only at h2
        subst h2
        refine ⟨.inr ⟨i, o, m, h1, hs, hm⟩, fun k hk m' hm' => ?_⟩
        have := hH.inj _ _ _ _ _ hm hm'
        subst this
        have : used.any (Nat.beq i) = true := List.any_eq_true.2 ⟨i, hk, by simp⟩
        rw [hnu] at this; cases this
      · simp only [μ'] at hm
        rw [if_neg (by omega)] at hm
        exact .inr ⟨i - H.length, o1, m, h1, by rw [← (renObj_same (sh H.length) o1).1]; exact hs, hm⟩
  have hsh : ∀ i j l, sh H.length i = some j → μ1 i = some l → μ' j = some l := fun i j l hi hm => by
    simp only [sh] at hi; injection hi with hi; subst hi; exact hmu1 i l hm
  have hold : ∀ {ν ν' : Mu} {a : AV} {v : Value}, RV (OO X H μ) w ν a v → (∀ i l, ν i = some l → ν' i = some l) → RV (OO X H2 μ') w' ν' a v := fun hr hn => hr.mono (fun b hlt hb' => by
    rcases hooEq b hb' with h | ⟨i, o, m, _, _, hm⟩
    · exact h.1
    · have := hnew i b m hm; omega) (fun b hlt _ => hb.block b hlt) _ hn
  refine ⟨v, _, H2, [], μ', rfl, ⟨rfl, rfl, rfl⟩, ⟨fun i l hi => ?_, fun i j b m m2 hi hj => ?_, fun i b m hi => ?_, fun i o hi hs => ?_, fun b hx => Nat.lt_of_lt_of_le (hH.xlt b hx) hb.size, hH.gl.step hb.size (fun b hlt _ _ => hb.block b hlt) (fun _ h => .inl h) fun i b m hi => (hext i b m hi).imp (fun h => h) .inr⟩, ren_rv hsh (fun b _ hb' => hooEq b hb') (fun _ _ _ => rfl) 4 g2, .of_below hb, hext, by simp [H2, share_len], fun k x u _ hx => ?_⟩
  · simp only [μ'] at hi
    split at hi
    · simp [H2, share_len] <;> omega
    · have := g1.dom _ _ hi
      simp [H2, share_len] <;> omega
  · simp only [μ'] at hi hj
    split at hi <;> split at hj
    · exact hH.inj _ _ _ _ _ hi hj
    · have := (hH.lt i b m hi).1; have := hnew _ b m2 hj; omega
    · have := (hH.lt j b m2 hj).1; have := hnew _ b m hi; omega
    · have := g1.inj _ _ _ _ _ hi hj; omega
  · simp only [μ'] at hi
    split at hi
    · have := hH.lt i b m hi; exact ⟨Nat.lt_of_lt_of_le this.1 hb.size, this.2⟩
    · have := hnew _ b m hi
      exact ⟨(g1.lt _ b m hi).1, fun hx => by have := hH.xlt b hx; omega⟩
  · rcases hobj i o hi with ⟨o1, hlt, h1, h2⟩ | ⟨o1, hge, h1, rfl⟩
    · have hst : o1.st < 2 := by
        split at h2 <;> rw [h2] at hs
        · simp at hs; omega
        · exact hs
      have hat := hH.obj i o1 h1 hst
      have hfin : ObjAt (OO X H2 μ') w' μ' i o1 := hat.mono (fun b hlt hb' => by
        rcases hooEq b hb' with h | ⟨i, o, m, _, _, hm⟩
        · exact h.1
        · have := hnew i b m hm; omega) (fun b hlt _ => hb.block b hlt) hmu fun b m hm => hb.block b (hH.lt i b m hm).1
      split at h2 <;> rw [h2]
      · obtain ⟨hz, hc⟩ := hfin
        refine ⟨hz, hc.imp (fun h => h) fun ⟨b, m, cur, e1, e2⟩ => ⟨b, m, cur, e1, ⟨e2.blk, e2.size, e2.le, e2.nle, e2.one, e2.flen, e2.cell⟩⟩⟩
      · exact hfin
    · have hat := g1.obj _ o1 h1 (by rw [← (renObj_same (sh H.length) o1).1]; exact hs)
      exact renObj_at hsh (fun b _ hb' => hooEq b hb') (fun _ _ _ => rfl) hat (fun l hl => by have := hmu1 _ l hl; rwa [Nat.sub_add_cancel hge] at this) fun _ _ _ => rfl
  · exact hold hx (upto_mono hmu)
section
variable {r : Option Nat} {l R : List Oper} {Q : Exit → St → Prop} {σ : St} {o : Oper}
/-- A call of a function that keeps to itself. -/
theorem al_pcall (hw : wantA l σ o = some true) {fo : Operand} {ao : List Operand} {ts : Array TypeId} (ho : o.op = .call { callee := .value fo, args := ao.toArray, argTypes := ts }) {f : FuncId} {fa ca : List AV} (hf : σ.ev fo = .fn (.func f) fa ca)
    {fn : Func} {c : Code} (hfn : P.funcs[f]? = some fn) (hnm : (fn.name == "runtime.NumGoroutine") = false) (hb : fn.body = some c) {q : Prop} {args' : List AV} {used : List Nat} (ht : thawL (thaw σ.H 4) (fa ++ ao.map σ.ev ++ ca) = some (q, args', used)) (hq : q)
    {x : AV} {N : List AObj} (h : APure P f args' x N) (next : AL P r l Q R (St.put ⟨σ.s, share used 0 σ.H ++ N.map (renObj (sh σ.H.length)), σ.fg, σ.nb⟩ o.dst (ren (sh σ.H.length) 4 x))) : AL P r l Q (o :: R) σ := by
  refine al_call hw ho hf hfn hnm hb (h.at_ ht hq) fun y H' fg hK => ?_
  obtain ⟨rfl, rfl, rfl⟩ := hK
  have e : σ.s.map (fgs (fgk σ.H.length [])) = σ.s := by
    have : (fgs (fgk σ.H.length []) : AV → AV) = fun x => x := rfl
    rw [this]; simp
  rw [e, show fgk σ.nb.n [] = [] from rfl, List.append_nil]
  exact next
end
/-- Out of the code of a function that keeps to itself. -/
theorem apure_of (hT : TabOk P tab) {f : FuncId} {fn : Func} {c : Code} (hf : P.funcs[f]? = some fn) (hb : fn.body = some c) {args : List AV} {x : AV} {N : List AObj}
    (h : AW P none c (RetP tab fn.results.toList fun r' H' _ => r' = x ∧ H' = N) ⟨args ++ List.replicate (fn.ntmps - args.length) (.lit undef), [], [], ⟨0, 0, false, none, true⟩⟩) : APure P f args x N := acall_of hT hf hb h
end Go.Proofs.YthcoccoanpmhgaaDoor
