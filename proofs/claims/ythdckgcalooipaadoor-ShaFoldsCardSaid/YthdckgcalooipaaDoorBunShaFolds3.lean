/- Functions that keep to themselves (APure): what they are given, and what they answer, is data; a call of one. More operations: against nil. A region that draws its order, walked in the text's order: its first operations write nothing that is there; each is shown to do what it does wherever what it waits for has been done. A region that draws its order: the rule. Drawn regions: what shows a step of one (DStep): an operation without memory, one that makes an object, a call. Drawn regions, state by state. Ranges over functions: yields in an iterator's walk; an iterator's contract. A range over a function, at the caller. From the walk without memory to the rows: arguments that read as data (Sl) read so (RV); a function that keeps to itself, called from without. A region that draws its order, where some of its first operations (extracts, moves) may come up behind those that write. A region that draws its order, small: each order by itself (AO). More of the walk: conditions by what they say; guards by cases; whole regions drawn; slots that code writes; lists in memory by an encoding. append onto a slice that has no room: a new row; of elements, and of so many zeros. Layer 1 as plain functions on lists of octets; no program in sight. -/
import Derived.OrdersIn
import Derived.RangeFuncIn
import Derived.Deep.AppendSrc
import Derived.Lib.AppendZerosOnto
import Derived.Test.YthdckgcalooipaaDoorBunShaFolds2
namespace Go.Proofs.YthdckgcalooipaaDoor
section
open Go.RowKit
set_option linter.unusedVariables false
set_option linter.unusedSimpArgs false
set_option linter.unusedSectionVars false
variable {P : Program} {tab : Tab} {X : Nat → Prop} {H H' : List AObj} {μ μ' : Mu} {w w' : World} {O O' : Nat → Prop}

/-- The function f answers r of args, and makes the objects N (which r may name by 0, 1, ..). -/
def APure (P : Program) (f : FuncId) (args : List AV) (r : AV) (N : List AObj) : Prop := ACall P f args [] fun r' H' _ => r' = r ∧ H' = N

/-- Rows of one's own, read as slices that nobody writes: what they read as, and which objects these are. -/
def thawL (th : AV → Option (Prop × AV × List Nat)) : List AV → Option (Prop × List AV × List Nat)
  | [] => some (True, [], [])
  | a :: l => match th a, thawL th l with
    | some (q, x, u), some (q', xs, us) => some (q ∧ q', x :: xs, u ++ us)
    | _, _ => none
def thaw (H : List AObj) : Nat → AV → Option (Prop × AV × List Nat)
  | 0, _ => none
  | n + 1, a => match a with
    | .row i sz off k _ => match nth H i with
      | some ob => match ob.pure, Nat.blt ob.st 2, Nat.beq ob.sz sz with
        | true, true, true => some (off + k ≤ ob.n, .sl sz k false (match off with | 0 => ob.f | off => fun j => ob.f (off + j)), [i])
        | _, _, _ => none
      | none => none
    | .ptr i sz k o => match nth H i with
      | some ob => match ob.pure, Nat.blt ob.st 2, Nat.beq ob.sz sz with
        | true, true, true => some (k < ob.n ∧ o ≤ sz, .ip ((ob.f k).drop o), [i])
        | _, _, _ => none
      | none => none
    | .agg cs => match thawL (thaw H n) cs with | some (q, l, u) => some (q, .agg l, u) | none => none
    | .tup cs => match thawL (thaw H n) cs with | some (q, l, u) => some (q, .tup l, u) | none => none
    | .fn f xs ys => match thawL (thaw H n) xs, thawL (thaw H n) ys with | some (q, l, u), some (q', l', u') => some (q ∧ q', .fn f l l', u ++ u') | _, _ => none
    | .iface t x => match thaw H n x with | some (q, y, u) => some (q, .iface t y, u) | none => none
    | a => some (True, a, [])
def Less (O : Nat → Prop) (μ : Mu) (used : List Nat) (b : Nat) : Prop := O b ∧ ∀ i ∈ used, ∀ m, μ i ≠ some (some (b, m))
theorem Less.anti {O : Nat → Prop} {u u' : List Nat} (h : ∀ i ∈ u', i ∈ u) {b : Nat} (hb : Less O μ u b) : Less O μ u' b := ⟨hb.1, fun i hi m => hb.2 i (h i hi) m⟩
theorem RV.less {ν ν' : Mu} {u u' : List Nat} {a : AV} {v : Value} (h : RV (Less O μ u') w ν a v) (hu : ∀ i ∈ u', i ∈ u) (hn : ∀ i l, ν i = some l → ν' i = some l) : RV (Less O μ u) w ν' a v := h.mono (fun b _ hb => hb.anti hu) (fun _ _ _ => rfl) _ hn
theorem thawL_rv {th : AV → Option (Prop × AV × List Nat)} (hth : ∀ {a : AV} {q : Prop} {y : AV} {u : List Nat}, th a = some (q, y, u) → q → ∀ {v : Value}, RV (OO X H μ) w μ a v → RV (Less (OO X H μ) μ u) w noMu y v) :
    ∀ {l : List AV} {q : Prop} {ys : List AV} {u : List Nat}, thawL th l = some (q, ys, u) → q → ∀ {vs : List Value}, RVs (OO X H μ) w μ l vs → RVs (Less (OO X H μ) μ u) w noMu ys vs
  | [], q, ys, u, h, hq, vs, hv => by
    simp only [thawL] at h; injection h with h; injection h with _ h; injection h with e1 e2; subst e1 e2
    obtain rfl := hv.unnil
    exact .nil
  | a :: l, q, ys, u, h, hq, vs, hv => by
    simp only [thawL] at h
    split at h
    · rename_i q1 x u1 q2 xs u2 h1 h2
      injection h with h; injection h with e0 h; injection h with e1 e2; subst e0 e1 e2
      obtain ⟨v, us, rfl, g1, g2⟩ := hv.uncons
      have r1 := hth h1 hq.1 g1
      have r2 := thawL_rv hth h2 hq.2 g2
      exact .cons (r1.less (fun i hi => List.mem_append.2 (.inl hi)) fun _ _ h => h) ⟨r2.1, fun j a v ha hv => (r2.2 j a v ha hv).less (fun i hi => List.mem_append.2 (.inr hi)) fun _ _ h => h⟩
    · cases h
theorem thaw_rv (hH : HRel μ X H w) : ∀ (n : Nat) {a : AV} {q : Prop} {y : AV} {u : List Nat}, thaw H n a = some (q, y, u) → q → ∀ {v : Value}, RV (OO X H μ) w μ a v → RV (Less (OO X H μ) μ u) w noMu y v
  | 0, a, q, y, u, h, _, v, _ => by cases h
  | n + 1, a, q, y, u, h, hq, v, hv => by
    have same : ∀ {a : AV} {v : Value}, RV (OO X H μ) w noMu a v → RV (Less (OO X H μ) μ []) w noMu a v := fun h => h.mono (fun b _ hb => hb.1) (fun _ _ _ => rfl) _ fun _ _ h => h
    have ih := fun {a : AV} {q : Prop} {y : AV} {u : List Nat} (h : thaw H n a = some (q, y, u)) (hq : q) {v : Value} (hv : RV (OO X H μ) w μ a v) => thaw_rv hH n h hq hv
    cases hv with
    | junk => simp only [thaw] at h; injection h with h; injection h with _ h; injection h with e1 e2; subst e1 e2; exact .junk _
    | lit => simp only [thaw] at h; injection h with h; injection h with _ h; injection h with e1 e2; subst e1 e2; exact .lit _
    | arr a1 a2 a3 a4 => simp only [thaw] at h; injection h with h; injection h with _ h; injection h with e1 e2; subst e1 e2; exact same (.arr a1 a2 a3 a4)
    | sl a0 a1 a2 a3 a4 a5 a6 a7 a8 => simp only [thaw] at h; injection h with h; injection h with _ h; injection h with e1 e2; subst e1 e2; exact same (.sl a0 a1 a2 a3 a4 a5 a6 a7 a8)
    | ip a1 a2 a3 a4 a5 => simp only [thaw] at h; injection h with h; injection h with _ h; injection h with e1 e2; subst e1 e2; exact same (.ip a1 a2 a3 a4 a5)
    | ptr hm =>
      rename_i i sz k o b mb
      simp only [thaw] at h
      split at h
      · rename_i ob hob
        split at h
        · rename_i hpu hst hsz
          injection h with h; injection h with e0 h; injection h with e1 e2; subst e0 e1 e2
          rw [Nat.blt_eq] at hst
          obtain rfl := beq_t hsz
          obtain ⟨hz, cur, hin⟩ := hH.at_ hob hst hm
          obtain ⟨vs, g1, g2, g3, g4⟩ := elem_cells hz hin hq.1
          rw [hpu] at g1
          have g5 := g1.drop o
          refine .ip g5.1 (fun j a v ha hv => (g5.2 j a v ha hv).mono (fun b _ hb => hb.1) (fun _ _ _ => rfl) _ fun _ _ h => h) (fun hb => hb.2 i (by simp) mb hm) (hH.lt i b mb hm).1 fun j u hu => ?_
          rw [cell_of_row w b _ cur ob.T (0, 0) hin.blk, Nat.add_assoc]
          exact g3 _ u (by simpa using hu)
        · cases h
      · cases h
    | agg h1 h2 =>
      simp only [thaw] at h
      split at h
      · rename_i q1 l u1 hl
        injection h with h; injection h with e0 h; injection h with e1 e2; subst e0 e1 e2
        have := thawL_rv ih hl hq ⟨h1, h2⟩
        exact .agg this.1 this.2
      · cases h
    | tup h1 h2 =>
      simp only [thaw] at h
      split at h
      · rename_i q1 l u1 hl
        injection h with h; injection h with e0 h; injection h with e1 e2; subst e0 e1 e2
        have := thawL_rv ih hl hq ⟨h1, h2⟩
        exact .tup this.1 this.2
      · cases h
    | fn h1 h2 h3 h4 =>
      simp only [thaw] at h
      split at h
      · rename_i q1 l u1 q2 l2 u2 hl hl2
        injection h with h; injection h with e0 h; injection h with e1 e2; subst e0 e1 e2
        have r1 := thawL_rv ih hl hq.1 ⟨h1, h2⟩
        have r2 := thawL_rv ih hl2 hq.2 ⟨h3, h4⟩
        exact .fn r1.1 (fun j a v ha hv => (r1.2 j a v ha hv).less (fun i hi => List.mem_append.2 (.inl hi)) fun _ _ h => h) r2.1 (fun j a v ha hv => (r2.2 j a v ha hv).less (fun i hi => List.mem_append.2 (.inr hi)) fun _ _ h => h)
      · cases h
    | iface h1 =>
      simp only [thaw] at h
      split at h
      · rename_i q1 l u1 hl
        injection h with h; injection h with e0 h; injection h with e1 e2; subst e0 e1 e2
        exact .iface (ih hl hq h1)
      · cases h
    | rowNil hm hc =>
      simp only [thaw] at h
      split at h
      · rename_i ob hob
        split at h
        · rename_i hpu hst hsz
          injection h with h; injection h with e0 h; injection h with e1 e2; subst e0 e1 e2
          rw [Nat.blt_eq] at hst
          have hz : 0 < ob.sz := by rw [nth_eq] at hob; exact (hH.obj _ ob hob hst).1
          exact .sl (vs := []) (by simp) (Nat.le_refl _) (by unfold maxLen; omega) (fun h => by cases h) (by simp) (fun k hk => by omega) (fun k j a v hk => by omega) (by rw [← beq_t hsz]; exact hz) fun h => (h rfl).elim
        · cases h
      · cases h
    | rowE hm hc ho =>
      simp only [thaw] at h
      split at h
      · rename_i ob hob
        split at h
        · rename_i hpu hst hsz
          injection h with h; injection h with e0 h; injection h with e1 e2; subst e0 e1 e2
          rw [Nat.blt_eq] at hst
          have hz : 0 < ob.sz := by rw [nth_eq] at hob; exact (hH.obj _ ob hob hst).1
          exact .sl (vs := []) (by simp) (Nat.le_refl _) (by unfold maxLen; omega) (fun h => by cases h) (by simp) (fun k hk => by omega) (fun k j a v hk => by omega) (by rw [← beq_t hsz]; exact hz) fun h => (h rfl).elim
        · cases h
      · cases h
    | row hm hn hc hcap hend =>
      rename_i i sz off k b mb c cap
      simp only [thaw] at h
      split at h
      · rename_i ob hob
        split at h
        · rename_i hpu hst hsz
          injection h with h; injection h with e0 h; injection h with e1 e2; subst e0 e1 e2
          rw [Nat.blt_eq] at hst
          obtain rfl := beq_t hsz
          obtain ⟨hz, cur, hin⟩ := hH.at_ hob hst hm
          have hg : ∀ j, (match off with | 0 => ob.f | off => fun j => ob.f (off + j)) j = ob.f (off + j) := fun j => by cases off <;> simp
          have hsz : (off + k) * ob.sz ≤ cur.size := by rw [hin.size]; exact Nat.mul_le_mul_right _ (by have := hin.nle; omega)
          rw [Nat.add_mul] at hsz
          have hl : ((cur.toList.drop (off * ob.sz)).take (k * ob.sz)).length = k * ob.sz := by simp; omega
          have hget : ∀ (k' j : Nat) v, k' < k → j < ob.sz → ((cur.toList.drop (off * ob.sz)).take (k * ob.sz))[k' * ob.sz + j]? = some v → cur[(off + k') * ob.sz + j]? = some v := by
            intro k' j v hk hj hv
            rw [List.getElem?_take] at hv
            split at hv
            · rw [Nat.add_mul, Nat.add_assoc]; simpa using hv
            · cases hv
          refine .sl (vs := (cur.toList.drop (off * ob.sz)).take (k * ob.sz)) (fun u hu => ?_) hn (by have := hin.le; omega) (fun h => by cases h) hl (fun k' hk' => by rw [hg]; exact hin.flen _ (by omega)) (fun k' j a v hk' ha hv => ?_) hz fun hk0 => ⟨b, off * ob.sz, rfl, fun hb => hb.2 i (by simp) mb hm, fun j u hu => ?_⟩
          · obtain ⟨p, hp⟩ := List.getElem?_of_mem hu
            have hlt : p < k * ob.sz := by rw [← hl]; exact (List.getElem?_eq_some_iff.1 hp).1
            have hd := Nat.div_add_mod p ob.sz
            have hmod := Nat.mod_lt p hz
            have hlt2 : p / ob.sz < k := Nat.div_lt_of_lt_mul (by rw [Nat.mul_comm]; exact hlt)
            exact hin.one (off + p / ob.sz) (p % ob.sz) u (by omega) hmod (hget _ _ u hlt2 hmod (by rw [show p / ob.sz * ob.sz + p % ob.sz = p by rw [Nat.mul_comm]; exact hd]; exact hp))
          · rw [hg] at ha
            have hj : j < ob.sz := by rw [← hin.flen (off + k') (by omega)]; exact (List.getElem?_eq_some_iff.1 ha).1
            have := hin.cell (off + k') j a v (by omega) ha (hget k' j v hk' hj hv)
            rw [hpu] at this
            exact this.mono (fun b _ hb => hb.1) (fun _ _ _ => rfl) _ fun _ _ h => h
          · rw [cell_of_row w b _ cur ob.T (0, 0) hin.blk]
            rw [List.getElem?_take] at hu
            split at hu
            · simpa using hu
            · cases hu
        · cases h
      · cases h
/-- Objects that are shared from now on. -/
def share (used : List Nat) : Nat → List AObj → List AObj
  | _, [] => []
  | k, o :: l => (match used.any (Nat.beq k) with | true => { o with st := max o.st 1 } | false => o) :: share used (k + 1) l
theorem share_at (used : List Nat) : ∀ (l : List AObj) (k i : Nat), (share used k l)[i]? = (l[i]?).map fun o => match used.any (Nat.beq (k + i)) with | true => { o with st := max o.st 1 } | false => o
  | [], k, i => by simp [share]
  | o :: l, k, 0 => by simp [share]
  | o :: l, k, i + 1 => by
    simp only [share, List.getElem?_cons_succ]
    rw [share_at used l (k + 1) i, show k + 1 + i = k + (i + 1) by omega]
theorem share_len (used : List Nat) : ∀ (l : List AObj) (k : Nat), (share used k l).length = l.length
  | [], k => rfl
  | o :: l, k => by simp [share, share_len used l (k + 1)]
abbrev sh (n : Nat) : Nat → Option Nat := fun i => some (i + n)
/-- The call of such a function, with whatever objects: what of one's own it was given to read is shared from then on. -/
theorem APure.at_ {f : FuncId} {args args' : List AV} {r : AV} {N : List AObj} (h : APure P f args' r N) {q : Prop} {used : List Nat} (ht : thawL (thaw H 4) args = some (q, args', used)) (hq : q) :
    ACall P f args H fun r' H' fg => r' = ren (sh H.length) 4 r ∧ H' = share used 0 H ++ N.map (renObj (sh H.length)) ∧ fg = [] := by
  intro w X μ vs hH hv
  have hargs := thawL_rv (thaw_rv hH 4) ht hq hv
  have hX1 : ∀ b, Less (OO X H μ) μ used b → b < w.heap.size := by
    rintro b ⟨hx | ⟨i, o, m, hi, hs, hm⟩, _⟩
    · exact hH.xlt b hx
    · exact (hH.lt i b m hm).1
  have hH0 : HRel noMu (Less (OO X H μ) μ used) [] w := ⟨fun i l h => (by cases h), fun i j b m m' h => (by cases h), fun i b m h => (by cases h), fun i o h => (by simp at h), hX1, hH.gl.step (Nat.le_refl _) (fun _ _ _ _ => rfl) (fun b hb => hb.1.elim .inl fun ⟨i, o, m, _, _, hm⟩ => .inr (.inl ⟨i, m, hm⟩)) fun i b m h => (by cases h)⟩
  have hoo0 : ∀ b, OO (Less (OO X H μ) μ used) [] noMu b ↔ Less (OO X H μ) μ used b := fun b => ⟨fun hb => hb.elim id fun ⟨i, o, m, hi, _⟩ => (by simp at hi), fun hb => .inl hb⟩
  refine (h w (Less (OO X H μ) μ used) noMu vs hH0 ⟨hargs.1, fun j a v ha hv => (hargs.2 j a v ha hv).mono (fun b _ hb => (hoo0 b).1 hb) (fun _ _ _ => rfl) _ fun _ _ h => h⟩).mono fun e w' he => ?_
  obtain ⟨v, r', H1, fg1, μ1, rfl, ⟨rfl, rfl⟩, g1, g2, g3, g4, _, _⟩ := he
  have hb : Below w.heap.size w w' := g3.below
  let μ' : Mu := fun i => if i < H.length then μ i else μ1 (i - H.length)
  have hmu : ∀ i l, μ i = some l → μ' i = some l := fun i l hi => by simp only [μ']; rw [if_pos (hH.dom i l hi)]; exact hi
  have hmu1 : ∀ i l, μ1 i = some l → μ' (i + H.length) = some l := fun i l hi => by simp only [μ']; rw [if_neg (by omega)]; simpa using hi
  have hnew : ∀ i b m, μ1 i = some (some (b, m)) → w.heap.size ≤ b := fun i b m hi => by
    rcases g4 i b m hi with ⟨j, m', hj⟩ | h
    · cases hj
    · exact h
  have hext : Ext μ w μ' := fun i b m hi => by
    simp only [μ'] at hi
    split at hi
    · exact .inl ⟨i, m, hi⟩
    · exact .inr (hnew _ b m hi)
  let H2 : List AObj := share used 0 H ++ H1.map (renObj (sh H.length))
  have hobj : ∀ i o, H2[i]? = some o → (∃ o1, i < H.length ∧ H[i]? = some o1 ∧ o = (match used.any (Nat.beq i) with | true => { o1 with st := max o1.st 1 } | false => o1)) ∨ ∃ o1, H.length ≤ i ∧ H1[i - H.length]? = some o1 ∧ o = renObj (sh H.length) o1 := by
    intro i o hi
    by_cases hlt : i < H.length
    · left
      rw [List.getElem?_append_left (by rw [share_len]; exact hlt), share_at] at hi
      simp only [Option.map_eq_some_iff, Nat.zero_add] at hi
      obtain ⟨o1, h1, h2⟩ := hi
      exact ⟨o1, hlt, h1, h2.symm⟩
    · right
      rw [List.getElem?_append_right (by rw [share_len]; omega), share_len] at hi
      simp only [List.getElem?_map, Option.map_eq_some_iff] at hi
      obtain ⟨o1, h1, h2⟩ := hi
      exact ⟨o1, by omega, h1, h2.symm⟩
  have hooEq : ∀ b, OO X H2 μ' b → OO (Less (OO X H μ) μ used) H1 μ1 b := by
    rintro b (hx | ⟨i, o, m, hi, hs, hm⟩)
    · exact .inl ⟨.inl hx, fun i hi m hm => (hH.lt i b m hm).2 hx⟩
    · rcases hobj i o hi with ⟨o1, hlt, h1, h2⟩ | ⟨o1, hge, h1, rfl⟩
      · simp only [μ'] at hm
        rw [if_pos hlt] at hm
        left
        have hnu : used.any (Nat.beq i) = false := by
          cases hc : used.any (Nat.beq i) with
          | false => rfl
          | true => rw [hc] at h2; simp only at h2; rw [h2] at hs; simp at hs <;> omega
        rw [hnu] at h2
        simp only at h2
        subst h2
        refine ⟨.inr ⟨i, o, m, h1, hs, hm⟩, fun k hk m' hm' => ?_⟩
        have := hH.inj _ _ _ _ _ hm hm'
        subst this
        have : used.any (Nat.beq i) = true := List.any_eq_true.2 ⟨i, hk, by simp⟩
        rw [hnu] at this; cases this
      · simp only [μ'] at hm
        rw [if_neg (by omega)] at hm
        exact .inr ⟨i - H.length, o1, m, h1, by rw [← (renObj_same (sh H.length) o1).1]; exact hs, hm⟩
  have hsh : ∀ i j l, sh H.length i = some j → μ1 i = some l → μ' j = some l := fun i j l hi hm => by
    simp only [sh] at hi; injection hi with hi; subst hi; exact hmu1 i l hm
  have hold : ∀ {ν ν' : Mu} {a : AV} {v : Value}, RV (OO X H μ) w ν a v → (∀ i l, ν i = some l → ν' i = some l) → RV (OO X H2 μ') w' ν' a v := fun hr hn => hr.mono (fun b hlt hb' => by
    rcases hooEq b hb' with h | ⟨i, o, m, _, _, hm⟩
    · exact h.1
    · have := hnew i b m hm; omega) (fun b hlt _ => hb.block b hlt) _ hn
  refine ⟨v, _, H2, [], μ', rfl, ⟨rfl, rfl, rfl⟩, ⟨fun i l hi => ?_, fun i j b m m2 hi hj => ?_, fun i b m hi => ?_, fun i o hi hs => ?_, fun b hx => Nat.lt_of_lt_of_le (hH.xlt b hx) hb.size, hH.gl.step hb.size (fun b hlt _ _ => hb.block b hlt) (fun _ h => .inl h) fun i b m hi => (hext i b m hi).imp (fun h => h) .inr⟩, ren_rv hsh (fun b _ hb' => hooEq b hb') (fun _ _ _ => rfl) 4 g2, .of_below hb, hext, by simp [H2, share_len], fun k x u _ hx => ?_⟩
  · simp only [μ'] at hi
    split at hi
    · simp [H2, share_len] <;> omega
    · have := g1.dom _ _ hi
      simp [H2, share_len] <;> omega
  · simp only [μ'] at hi hj
    split at hi <;> split at hj
    · exact hH.inj _ _ _ _ _ hi hj
    · have := (hH.lt i b m hi).1; have := hnew _ b m2 hj; omega
    · have := (hH.lt j b m2 hj).1; have := hnew _ b m hi; omega
    · have := g1.inj _ _ _ _ _ hi hj; omega
  · simp only [μ'] at hi
    split at hi
    · have := hH.lt i b m hi; exact ⟨Nat.lt_of_lt_of_le this.1 hb.size, this.2⟩
    · have := hnew _ b m hi
      exact ⟨(g1.lt _ b m hi).1, fun hx => by have := hH.xlt b hx; omega⟩
  · rcases hobj i o hi with ⟨o1, hlt, h1, h2⟩ | ⟨o1, hge, h1, rfl⟩
    · have hst : o1.st < 2 := by
        split at h2 <;> rw [h2] at hs
        · simp at hs; omega
        · exact hs
      have hat := hH.obj i o1 h1 hst
      have hfin : ObjAt (OO X H2 μ') w' μ' i o1 := hat.mono (fun b hlt hb' => by
        rcases hooEq b hb' with h | ⟨i, o, m, _, _, hm⟩
        · exact h.1
        · have := hnew i b m hm; omega) (fun b hlt _ => hb.block b hlt) hmu fun b m hm => hb.block b (hH.lt i b m hm).1
      split at h2 <;> rw [h2]
      · obtain ⟨hz, hc⟩ := hfin
        refine ⟨hz, hc.imp (fun h => h) fun ⟨b, m, cur, e1, e2⟩ => ⟨b, m, cur, e1, ⟨e2.blk, e2.size, e2.le, e2.nle, e2.one, e2.flen, e2.cell⟩⟩⟩
      · exact hfin
    · have hat := g1.obj _ o1 h1 (by rw [← (renObj_same (sh H.length) o1).1]; exact hs)
      exact renObj_at hsh (fun b _ hb' => hooEq b hb') (fun _ _ _ => rfl) hat (fun l hl => by have := hmu1 _ l hl; rwa [Nat.sub_add_cancel hge] at this) fun _ _ _ => rfl
  · exact hold hx (upto_mono hmu)
section
variable {r : Option Nat} {l R : List Oper} {Q : Exit → St → Prop} {σ : St} {o : Oper}
/-- A call of a function that keeps to itself. -/
theorem al_pcall (hw : wantA l σ o = some true) {fo : Operand} {ao : List Operand} {ts : Array TypeId} (ho : o.op = .call { callee := .value fo, args := ao.toArray, argTypes := ts }) {f : FuncId} {fa ca : List AV} (hf : σ.ev fo = .fn (.func f) fa ca)
    {fn : Func} {c : Code} (hfn : P.funcs[f]? = some fn) (hnm : (fn.name == "runtime.NumGoroutine") = false) (hb : fn.body = some c) {q : Prop} {args' : List AV} {used : List Nat} (ht : thawL (thaw σ.H 4) (fa ++ ao.map σ.ev ++ ca) = some (q, args', used)) (hq : q)
    {x : AV} {N : List AObj} (h : APure P f args' x N) (next : AL P r l Q R (St.put ⟨σ.s, share used 0 σ.H ++ N.map (renObj (sh σ.H.length)), σ.fg, σ.nb⟩ o.dst (ren (sh σ.H.length) 4 x))) : AL P r l Q (o :: R) σ := by
  refine al_call hw ho hf hfn hnm hb (h.at_ ht hq) fun y H' fg hK => ?_
  obtain ⟨rfl, rfl, rfl⟩ := hK
  have e : σ.s.map (fgs (fgk σ.H.length [])) = σ.s := by
    have : (fgs (fgk σ.H.length []) : AV → AV) = fun x => x := rfl
    rw [this]; simp
  rw [e, show fgk σ.nb.n [] = [] from rfl, List.append_nil]
  exact next
end
/-- Out of the code of a function that keeps to itself. -/
theorem apure_of (hT : TabOk P tab) {f : FuncId} {fn : Func} {c : Code} (hf : P.funcs[f]? = some fn) (hb : fn.body = some c) {args : List AV} {x : AV} {N : List AObj}
    (h : AW P none c (RetP tab fn.results.toList fun r' H' _ => r' = x ∧ H' = N) ⟨args ++ List.replicate (fn.ntmps - args.length) (.lit undef), [], [], ⟨0, 0, false, none, true⟩⟩) : APure P f args x N := acall_of hT hf hb h
end
end Go.Proofs.YthdckgcalooipaaDoor
namespace Go.Proofs.YthdckgcalooipaaDoor
section
open Go.RowKit
set_option linter.unusedVariables false
set_option linter.unusedSimpArgs false
set_option linter.unusedSectionVars false
variable {P : Program} {tab : Tab} {X : Nat → Prop} {H H' : List AObj} {μ μ' : Mu} {w w' : World} {O O' : Nat → Prop} {r : Option Nat} {l R : List Oper} {Q : Exit → St → Prop} {σ : St} {o : Oper}
def lenA : AV → Option Nat
  | .sl _ n _ _ => some n
  | .row _ _ _ n _ => some n
  | .lit (.slice none 0 0) => some 0
  | _ => none
theorem lenA_ok {x : AV} {n : Nat} (h : lenA x = some n) {v : Value} (hv : RV O w μ x v) : ∃ A c, v = .slice A n c ∧ (A = none → n = 0) := by
  unfold lenA at h
  split at h <;> first | (cases h; done) | (injection h with h; subst h)
  · cases hv with
    | sl a0 a1 a2 a3 a4 a5 a6 a7 a8 =>
      refine ⟨_, _, rfl, fun hA => ?_⟩
      refine Classical.byContradiction fun h => ?_
      obtain ⟨g, o, he, _⟩ := a8 h
      rw [hA] at he; cases he
  · cases hv with
    | rowNil => exact ⟨_, _, rfl, fun _ => rfl⟩
    | row => exact ⟨_, _, rfl, fun h => by cases h⟩
    | rowE => exact ⟨_, _, rfl, fun _ => rfl⟩
  · cases hv; exact ⟨_, _, rfl, fun _ => rfl⟩
def isSlice (tab : Tab) (t : TypeId) : Bool := match tab t with | some i => (match i.k with | .slice _ => true | _ => false) | none => false
theorem isSlice_ok (hT : TabOk P tab) {t : TypeId} (h : isSlice tab t = true) : ∃ e, P.underlying t = some (.slice e) := by
  unfold isSlice at h
  split at h
  · rename_i i hi
    have hu := (hT _ _ hi).und
    split at h
    · rename_i e hk; rw [hk] at hu; exact ⟨e, hu⟩
    · cases h
  · cases h
def nilB (op : BinOp) (b : Bool) : Bool := match op with | .eql => b | _ => !b
/-- x == nil, x != nil: it may be either where x has no element. -/
theorem al_isnil (hT : TabOk P tab) (hw : wantA l σ o = some true) {op : BinOp} {t yt : TypeId} {x : Operand} (ho : o.op = .binOp op t x (.const (.slice none 0 0)) yt) (hop : op = .eql ∨ op = .neq) (ht : isSlice tab t = true) {n : Nat} (hx : lenA (σ.ev x) = some n)
    (next : ∀ b : Bool, (b = true → n = 0) → AL P r l Q R (σ.put o.dst (.lit (.bool (nilB op b))))) : AL P r l Q (o :: R) σ := by
  intro B μ a w hr
  obtain ⟨A, c, hv, hA⟩ := lenA_ok hx (hr.ev x)
  obtain ⟨e, hu⟩ := isSlice_ok hT ht
  have heq : (Op.equal t (.slice A n c) (.slice none 0 0)).run P w = .ok A.isNone w := by
    show (Op.equalIn (9999 + 1) t (.slice A n c) (.slice none 0 0)).run P w = _
    rw [Op.equalIn, Sem.run_bind, run_underlying hu]
    cases A <;> rfl
  have hrun : (execOp a.eval o).run P w = .ok (.value (.bool (nilB op A.isNone))) w := by
    have hex : execOp a.eval o = (do pure (.value (← (do eqGuard op t x (.const (.slice none 0 0)) (a.eval x) (.slice none 0 0); binOp op t (a.eval x) (.slice none 0 0)))) : Sem Next) := by
      simp only [execOp, ho]; rfl
    rw [hex, hv]
    rcases hop with rfl | rfl <;> simp [eqGuard, binOp, heq, nilB]
  unfold wpListIn
  rw [if_pos (wantA_ok hw hr)]
  refine ⟨fun f _ => fw_fn r f, ?_⟩
  rw [Oper.semAt_eq _ _ _ (fun c hc => by rw [ho] at hc; cases hc), hrun]
  exact next A.isNone (fun h => hA (by simpa using h)) B μ _ w (hr.put (.lit _) o.dst)
theorem AV.Le.nil {sz n : Nat} {f : Nat → List AV} (hn : n = 0) (hz : Nat.blt 0 sz = true) : AV.Le (.lit (.slice none 0 0)) (.sl sz n false f) := by
  intro O w μ v hv
  rw [Nat.blt_eq] at hz
  subst hn
  rw [hv.lit_eq]
  exact .sl (vs := []) (by simp) (Nat.le_refl _) (by unfold maxLen; omega) (fun h => by cases h) (by simp) (fun k hk => by omega) (fun k j a v hk => by omega) hz fun h => (h rfl).elim
/-- A row that is handed out: nobody writes it any more. -/
theorem Tells.thaw {t : Nat} {x y : AV} {q : Prop} {used : List Nat} (hx : nth σ.s t = some x) (h : thaw σ.H 4 x = some (q, y, used)) (hq : q) : Tells σ ⟨setn σ.s t y, share used 0 σ.H, σ.fg, σ.nb⟩ := by
  intro P B μ a w hr
  have hoo : ∀ b, OO B.X (share used 0 σ.H) μ b → Less (OO B.X σ.H μ) μ used b := by
    rintro b (hb | ⟨i, o, m, hi, hs, hm⟩)
    · exact ⟨.inl hb, fun i _ m hm => (hr.H.lt i b m hm).2 hb⟩
    · rw [share_at] at hi
      simp only [Option.map_eq_some_iff, Nat.zero_add] at hi
      obtain ⟨o1, h1, h2⟩ := hi
      have hnu : used.any (Nat.beq i) = false := by
        cases hc : used.any (Nat.beq i) with
        | false => rfl
        | true => rw [hc] at h2; simp only at h2; rw [← h2] at hs; simp at hs <;> omega
      rw [hnu] at h2
      simp only at h2
      subst h2
      refine ⟨.inr ⟨i, o1, m, h1, hs, hm⟩, fun k hk m' hm' => ?_⟩
      have := hr.H.inj _ _ _ _ _ hm hm'
      subst this
      have : used.any (Nat.beq i) = true := List.any_eq_true.2 ⟨i, hk, by simp⟩
      rw [hnu] at this; cases this
  have up : ∀ {ν : Mu} {a : AV} {v : Value}, RV (OO B.X σ.H μ) w ν a v → RV (OO B.X (share used 0 σ.H) μ) w ν a v := fun h => h.mono (fun b _ hb => (hoo b hb).1) (fun _ _ _ => rfl) _ fun _ _ h => h
  refine ⟨μ, by simpa [setn_eq] using hr.size, fun k z v hz hv => ?_, ⟨fun i l hi => by simp only [share_len]; exact hr.H.dom i l hi, hr.H.inj, hr.H.lt, fun i o hi hs => ?_, hr.H.xlt, hr.H.gl⟩, hr.df, hr.chg, hr.ext, hr.nb, by simp only [share_len]; exact hr.le, fun k z v hk hz => up (hr.pres k z v hk hz)⟩
  · simp only [setn_eq] at hz
    by_cases he : t = k
    · subst he
      have hlt : t < σ.s.length := by rw [hr.size]; exact (Array.getElem?_eq_some_iff.1 hv).1
      rw [List.getElem?_set_self hlt] at hz
      injection hz with hz; subst hz
      rw [nth_eq] at hx
      exact ((thaw_rv hr.H 4 h hq (hr.slot t x v hx hv)).mono (fun b _ hb => hoo b hb) (fun _ _ _ => rfl) _ fun _ _ h => h).up
    · rw [List.getElem?_set_ne he] at hz
      exact up (hr.slot k z v hz hv)
  · simp only [share_at, Option.map_eq_some_iff, Nat.zero_add] at hi
    obtain ⟨o1, h1, h2⟩ := hi
    have hst : o1.st < 2 := by
      split at h2 <;> rw [← h2] at hs
      · simp at hs; omega
      · exact hs
    have hat := hr.H.obj i o1 h1 hst
    have hfin : ObjAt (OO B.X (share used 0 σ.H) μ) w μ i o1 := hat.mono (fun b _ hb => (hoo b hb).1) (fun _ _ _ => rfl) (fun _ _ h => h) fun _ _ _ => rfl
    split at h2 <;> rw [← h2]
    · obtain ⟨hz, hc⟩ := hfin
      exact ⟨hz, hc.imp (fun h => h) fun ⟨b, m, cur, e1, e2⟩ => ⟨b, m, cur, e1, ⟨e2.blk, e2.size, e2.le, e2.nle, e2.one, e2.flen, e2.cell⟩⟩⟩
    · exact hfin
theorem aw_cond_t {c : Operand} {x y : Code} (hc : σ.ev c = .lit (.bool true)) (h : AW P r x Q σ) : AW P r (.cond c x y) Q σ := aw_cond hc (fun _ => h) (fun h => by cases h)
theorem aw_cond_f {c : Operand} {x y : Code} (hc : σ.ev c = .lit (.bool false)) (h : AW P r y Q σ) : AW P r (.cond c x y) Q σ := aw_cond hc (fun h => by cases h) (fun _ => h)
theorem APure.le {f : FuncId} {args args' : List AV} {x : AV} {N : List AObj} (h : APure P f args' x N) (hl : LeS args args') : APure P f args x N := fun w X μ vs hH hv => h w X μ vs hH ⟨hl.len ▸ hv.1, fun j a v ha hu => by
  obtain ⟨y, hy, hle⟩ := hl.at_ ha
  exact hle _ _ _ _ (hv.2 j y v hy hu)⟩
def junkL : List AV → List Nat → List AV
  | s, [] => s
  | s, t :: ts => junkL (setn s t .junk) ts
def setsL : List AV → List (Nat × AV) → List AV
  | s, [] => s
  | s, p :: ps => setsL (setn s p.1 p.2) ps
def lst (s : List AV) (fg : List Nat) (nb : YB) (ws : List Nat) (g : List (Nat × AV)) (H : List AObj) : St := ⟨setsL (junkL s ws) g, H, fg, nb⟩
/-- A loop: what is known of its slots and objects at a round's head. -/
theorem aw_loopw {c : Code} {ι : Type} {s : List AV} {H0 : List AObj} {fg : List Nat} {nb : YB} (ws : List Nat) (g : ι → List (Nat × AV)) (Hs : ι → List AObj) (m : ι → Nat) (i0 : ι) (h0 : Tells ⟨s, H0, fg, nb⟩ (lst s fg nb ws (g i0) (Hs i0)))
    (round : ∀ i, AW P r c (Then (fun σ' => ∃ j, m j < m i ∧ Tells σ' (lst s fg nb ws (g j) (Hs j))) Q) (lst s fg nb ws (g i) (Hs i))) : AW P r (.loop c) Q ⟨s, H0, fg, nb⟩ :=
  aw_loop (fun i => lst s fg nb ws (g i) (Hs i)) m i0 h0 round
theorem then_ret {n : St → Prop} (h : Q .ret σ) : Then n Q .ret σ := h
theorem then_exit {n : St → Prop} {id : Nat} (h : Q (.exit id) σ) : Then n Q (.exit id) σ := h
theorem inb_ret {id : Nat} (h : Q .ret σ) : InBlock id Q .ret σ := h
theorem inb_norm {id : Nat} (h : Q .normal σ) : InBlock id Q .normal σ := h
theorem inb_exit {id id' : Nat} (he : Nat.beq id' id = true) (h : Q .normal σ) : InBlock id Q (.exit id') σ := by simp only [InBlock, he]; exact h
theorem inb_other {id id' : Nat} (he : Nat.beq id' id = false) (h : Q (.exit id') σ) : InBlock id Q (.exit id') σ := by simp only [InBlock, he]; exact h
theorem then_norm {c : Code} {Q' : Exit → St → Prop} (h : AW P r c Q σ) : Then (AW P r c Q) Q' .normal σ := h
theorem retp {rs : List ResultVar} {K : AV → List AObj → List Nat → Prop} {q : Prop} {l : List AV} (h : aRes tab σ rs = some (q, l)) (hq : q) (l' : List AV) (H' : List AObj) (ht : Tells ⟨l, σ.H, σ.fg, σ.nb⟩ ⟨l', H', σ.fg, σ.nb⟩) (hk : K (resOf l') H' σ.fg) : RetP tab rs K .ret σ :=
  ⟨q, l, h, hq, l', H', ht, hk⟩
/-- A function with a body. -/
def GoFn (P : Program) (f : FuncId) : Prop := ∃ fn c, P.funcs[f]? = some fn ∧ (fn.name == "runtime.NumGoroutine") = false ∧ fn.body = some c
theorem al_pc (hw : wantA l σ o = some true) {fo : Operand} {ao : List Operand} {ts : Array TypeId} (ho : o.op = .call { callee := .value fo, args := ao.toArray, argTypes := ts }) {f : FuncId} {fa ca : List AV} (hf : σ.ev fo = .fn (.func f) fa ca) (hg : GoFn P f)
    {q : Prop} {args' : List AV} {used : List Nat} (ht : thawL (thaw σ.H 4) (fa ++ ao.map σ.ev ++ ca) = some (q, args', used)) (hq : q)
    {x : AV} {N : List AObj} (h : APure P f args' x N) (next : AL P r l Q R (St.put ⟨σ.s, share used 0 σ.H ++ N.map (renObj (sh σ.H.length)), σ.fg, σ.nb⟩ o.dst (ren (sh σ.H.length) 4 x))) : AL P r l Q (o :: R) σ := by
  obtain ⟨fn, c, h1, h2, h3⟩ := hg
  exact al_pcall hw ho hf h1 h2 h3 ht hq h next
theorem ObjLe.of {T sz n n' st : Nat} {f f' : Nat → List AV} {p p' bx bx' : Bool} (hn : n' ≤ n) (hp : p' = true → p = true) (hf : ∀ k, k < n' → f' k = f k) : ObjLe ⟨T, sz, n, f, st, p, bx⟩ ⟨T, sz, n', f', st, p', bx'⟩ :=
  ⟨Nat.le_refl _, fun _ => rfl, fun _ => rfl, fun _ => hn, fun _ h => hp h, fun _ k hk => .inl (hf k hk)⟩
theorem ObjLe.gone {o : AObj} {T sz n : Nat} {f : Nat → List AV} {p bx : Bool} (h : o.st ≤ 2) : ObjLe o ⟨T, sz, n, f, 2, p, bx⟩ :=
  ⟨h, fun h => (by simp at h), fun h => (by simp at h), fun h => (by simp at h), fun h => (by simp at h), fun h => (by simp at h)⟩
theorem aw_cond_y {c : Operand} {x y : Code} {b : Bool} (hc : σ.ev c = .lit (.bool b)) (hb : b = true) (h : AW P r x Q σ) : AW P r (.cond c x y) Q σ := aw_cond_t (hb ▸ hc) h
theorem aw_cond_n {c : Operand} {x y : Code} {b : Bool} (hc : σ.ev c = .lit (.bool b)) (hb : b = false) (h : AW P r y Q σ) : AW P r (.cond c x y) Q σ := aw_cond_f (hb ▸ hc) h
theorem inb_exit_ {id id' : Nat} (h : InBlock id Q (.exit id') σ) : InBlock id Q (.exit id') σ := h
theorem aw_cond_ {c : Operand} {x y : Code} (h : AW P r (.cond c x y) Q σ) : AW P r (.cond c x y) Q σ := h
theorem al_cons_ (h : AL P r l Q (o :: R) σ) : AL P r l Q (o :: R) σ := h
theorem LeH.setf : ∀ {H : List AObj} {i : Nat} {ob : AObj} {f' : Nat → List AV}, H[i]? = some ob → (∀ k, k < ob.n → f' k = ob.f k) → LeH H (H.set i { ob with f := f' })
  | [], i, ob, f', h, _ => by simp at h
  | o :: H, 0, ob, f', h, hf => by
    simp at h; subst h
    exact .cons (.of (Nat.le_refl _) (fun h => h) hf) (.refl _)
  | o :: H, i + 1, ob, f', h, hf => .cons (.refl _) (LeH.setf (by simpa using h) hf)
/-- What an object's elements are, in other words. -/
theorem Tells.objf (i : Nat) (f' : Nat → List AV) {s : List AV} {H : List AObj} {fg : List Nat} {nb : YB} {ob : AObj} (h : nth H i = some ob) (hf : ∀ k, k < ob.n → f' k = ob.f k) : Tells ⟨s, H, fg, nb⟩ ⟨s, setn H i { ob with f := f' }, fg, nb⟩ := by
  rw [setn_eq]; rw [nth_eq] at h
  exact Tells.le (.refl _) (LeH.setf h hf)
end
end Go.Proofs.YthdckgcalooipaaDoor
namespace Go.Proofs.YthdckgcalooipaaDoor
section
open Go.RowKit
set_option linter.unusedVariables false
set_option linter.unusedSimpArgs false
set_option linter.unusedSectionVars false
variable {P : Program} {tab : Tab} {X : Nat → Prop} {H H' : List AObj} {μ μ' : Mu} {w w' : World} {O O' : Nat → Prop}

/-- What an operation answers, and the object that it makes. -/
structure DR where
  x : AV
  N : Option AObj
def DR.news (d : DR) (b : Bool) : List AObj := match d.N with | none => [] | some ob => [match b with | true => ob | false => { ob with st := 2 }]
def setD (s : List AV) (t : Option Tmp) (x : AV) : List AV := match t with | some t => setn s t x | none => s
def slotsS (S : Nat → Bool) : Nat → List (Oper × DR) → List AV → List AV
  | _, [], s => s
  | k, p :: r, s => slotsS S (k + 1) r (match S k with | true => setD s p.1.dst p.2.x | false => s)
def newsS (S : Nat → Bool) : Nat → List (Oper × DR) → List AObj
  | _, [] => []
  | k, p :: r => p.2.news (S k) ++ newsS S (k + 1) r
def σS (σ : St) (D : List (Oper × DR)) (S : Nat → Bool) : St := ⟨slotsS S 0 D σ.s, σ.H ++ newsS S 0 D, σ.fg, σ.nb⟩
def nNews : List (Oper × DR) → Nat
  | [] => 0
  | p :: r => (match p.2.N with | none => 0 | some _ => 1) + nNews r
theorem news_len (d : DR) (b : Bool) : (d.news b).length = (match d.N with | none => 0 | some _ => 1) := by unfold DR.news; cases d.N <;> rfl
theorem newsS_len (S : Nat → Bool) : ∀ (k : Nat) (D : List (Oper × DR)), (newsS S k D).length = nNews D
  | _, [] => rfl
  | k, p :: r => by simp [newsS, nNews, news_len, newsS_len S (k + 1) r]
theorem setD_len (s : List AV) (t : Option Tmp) (x : AV) : (setD s t x).length = s.length := by cases t <;> simp [setD, setn_eq]
theorem slotsS_len (S : Nat → Bool) : ∀ (k : Nat) (D : List (Oper × DR)) (s : List AV), (slotsS S k D s).length = s.length
  | _, [], _ => rfl
  | k, p :: r, s => by
    simp only [slotsS]
    rw [slotsS_len S (k + 1) r]
    split <;> simp [setD_len]
theorem setD_ne {s : List AV} {d : Option Tmp} {x : AV} {t : Nat} (h : d ≠ some t) : (setD s d x)[t]? = s[t]? := by
  cases d with
  | none => rfl
  | some d => simp only [setD, setn_eq]; exact List.getElem?_set_ne (by rintro rfl; exact h rfl)
theorem setD_eq {s : List AV} {x : AV} {t : Nat} (h : t < s.length) : (setD s (some t) x)[t]? = some x := by simp only [setD, setn_eq]; exact List.getElem?_set_self h
theorem slotsS_no (S : Nat → Bool) (t : Nat) : ∀ (k : Nat) (D : List (Oper × DR)) (s : List AV), (∀ (j : Nat) p, D[j]? = some p → S (k + j) = true → p.1.dst ≠ some t) → (slotsS S k D s)[t]? = s[t]?
  | _, [], _, _ => rfl
  | k, p :: r, s, h => by
    simp only [slotsS]
    rw [slotsS_no S t (k + 1) r _ fun j q hq hs => h (j + 1) q (by simpa using hq) (by rw [← hs]; congr 1; omega)]
    split
    · rename_i hs; exact setD_ne (h 0 p rfl (by simpa using hs))
    · rfl
theorem slotsS_at (S : Nat → Bool) (t : Nat) : ∀ (k : Nat) (D : List (Oper × DR)) (s : List AV) (j : Nat) (p : Oper × DR), D[j]? = some p → S (k + j) = true → p.1.dst = some t → t < s.length → (∀ (j' : Nat) q, D[j']? = some q → j' ≠ j → q.1.dst ≠ some t) → (slotsS S k D s)[t]? = some p.2.x
  | _, [], _, j, p, h, _, _, _, _ => by simp at h
  | k, p0 :: r, s, 0, p, h, hs, hd, hl, hu => by
    simp at h; subst h
    simp only [slotsS]
    simp only [Nat.add_zero] at hs
    rw [slotsS_no S t (k + 1) r _ fun j q hq _ => hu (j + 1) q (by simpa using hq) (by omega), hs]
    simp only
    rw [hd]; exact setD_eq hl
  | k, p0 :: r, s, j + 1, p, h, hs, hd, hl, hu => by
    simp only [slotsS]
    refine slotsS_at S t (k + 1) r _ j p (by simpa using h) (by rw [← hs]; congr 1; omega) hd (by split <;> simp [setD_len, hl]) fun j' q hq hne => hu (j' + 1) q (by simpa using hq) (by omega)
/-- The number of the object that operation k makes. -/
def idD (n : Nat) (D : List (Oper × DR)) (k : Nat) : Nat := n + nNews (D.take k)
theorem newsS_get (S : Nat → Bool) : ∀ (k : Nat) (D : List (Oper × DR)) (j : Nat) (p : Oper × DR) (ob : AObj), D[j]? = some p → p.2.N = some ob → (newsS S k D)[nNews (D.take j)]? = some (match S (k + j) with | true => ob | false => { ob with st := 2 })
  | _, [], j, p, ob, h, _ => by simp at h
  | k, p0 :: r, 0, p, ob, h, hN => by
    simp at h; subst h
    simp [newsS, nNews, DR.news, hN]
  | k, p0 :: r, j + 1, p, ob, h, hN => by
    simp only [newsS, List.take_succ_cons, nNews]
    rw [List.getElem?_append_right (by rw [news_len]; omega), news_len, Nat.add_sub_cancel_left]
    have := newsS_get S (k + 1) r j p ob (by simpa using h) hN
    rw [this, show k + 1 + j = k + (j + 1) by omega]
theorem newsS_all (S : Nat → Bool) : ∀ (k : Nat) (D : List (Oper × DR)) (i : Nat) (o : AObj), (newsS S k D)[i]? = some o → ∃ (j : Nat) (p : Oper × DR) (ob : AObj), D[j]? = some p ∧ p.2.N = some ob ∧ i = nNews (D.take j) ∧ o = (match S (k + j) with | true => ob | false => { ob with st := 2 })
  | _, [], i, o, h => by simp [newsS] at h
  | k, p0 :: r, i, o, h => by
    simp only [newsS] at h
    by_cases hlt : i < (p0.2.news (S k)).length
    · rw [List.getElem?_append_left hlt] at h
      unfold DR.news at h
      cases hN : p0.2.N with
      | none => rw [hN] at h; simp at h
      | some ob =>
        rw [hN] at h
        have : i = 0 := by rw [news_len, hN] at hlt; simp only at hlt; omega
        subst this
        simp at h
        exact ⟨0, p0, ob, rfl, hN, rfl, h.symm⟩
    · rw [List.getElem?_append_right (by omega)] at h
      obtain ⟨j, p, ob, h1, h2, h3, h4⟩ := newsS_all S (k + 1) r _ o h
      refine ⟨j + 1, p, ob, by simpa using h1, h2, ?_, by rw [h4, show k + 1 + j = k + (j + 1) by omega]⟩
      rw [news_len] at h3 hlt
      simp only [List.take_succ_cons, nNews]
      omega
theorem nNews_inj : ∀ (D : List (Oper × DR)) (i j : Nat) (p q : Oper × DR) (a b : AObj), D[i]? = some p → D[j]? = some q → p.2.N = some a → q.2.N = some b → nNews (D.take i) = nNews (D.take j) → i = j
  | [], i, j, p, q, a, b, h, _, _, _, _ => by simp at h
  | p0 :: r, 0, 0, p, q, a, b, h1, h2, h3, h4, h5 => rfl
  | p0 :: r, 0, j + 1, p, q, a, b, h1, h2, h3, h4, h5 => by
    simp at h1; subst h1
    simp [nNews, h3] at h5
    omega
  | p0 :: r, i + 1, 0, p, q, a, b, h1, h2, h3, h4, h5 => by
    simp at h2; subst h2
    simp [nNews, h4] at h5
  | p0 :: r, i + 1, j + 1, p, q, a, b, h1, h2, h3, h4, h5 => by
    simp only [List.take_succ_cons, nNews] at h5
    have := nNews_inj r i j p q a b (by simpa using h1) (by simpa using h2) h3 h4 (by omega)
    omega

/-- What an operation does in whatever world its operands read so. -/
def DStep (P : Program) (ev : Operand → AV) (H0 : List AObj) (id : Nat) (o : Oper) (d : DR) : Prop :=
  ∀ (w : World) (X : Nat → Prop) (μ : Mu) (H : List AObj) (ρ : Operand → Value), HRel μ X H w → (∀ (i : Nat) ob, H0[i]? = some ob → H[i]? = some ob) → (∀ y ∈ o.op.operands, RV (OO X H μ) w μ (ev y) (ρ y)) →
    StepOk P (execOp ρ o) w fun u w' => Below w.heap.size w w' ∧ match d.N with
      | none => RV (OO X H μ) w' μ d.x u
      | some ob => ∃ b m cur, w.heap.size ≤ b ∧ b < w'.heap.size ∧ 0 < ob.sz ∧ ob.st = 0 ∧ ObjIn (fun c => OO X H μ c ∨ c = b) w' μ b m ob cur ∧ ∀ (O' : Nat → Prop) (μ' : Mu), (∀ c, O' c → OO X H μ c ∨ c = b) → (∀ i l, μ i = some l → μ' i = some l) → μ' id = some (some (b, m)) → RV O' w' μ' d.x u
/-- The check: nobody names what another one answers but behind it; who is behind the first ones is behind all. -/
def opTmps (o : Oper) : List Nat := o.op.operands.toList.filterMap fun | .tmp t => some t | _ => none
def okP (l : List Oper) (m : Nat) : Bool :=
  (List.range m).all fun k => match nth l k with
    | some o => (List.range m).all (fun j => match nth l j with
        | some oj => match oj.dst with
          | some t => (k == j || o.dst != some t) && (!(opTmps o).contains t || anc l.toArray k j)
          | none => true
        | none => false) && (match o.guard with | some (j, _) => anc l.toArray k j && Nat.blt j m | none => true)
    | none => false
def okD (l : List Oper) (m : Nat) : Bool := okS l.toArray m && okP l m
structure OkS0 (ops : Array Oper) (m : Nat) : Prop where
  lt : ∀ (i : Nat) (o : Oper), ops[i]? = some o → ∀ e ∈ o.after, Region.binds .any e = true → e.on < i
  free : ∀ (i j : Nat) (oi oj : Oper), ops[i]? = some oi → ops[j]? = some oj → j < i → anc ops j i = false ∧ (anc ops i j = true ∨ oj.apart ops oi = true)
  sel : ∀ (i : Nat) (o : Oper), ops[i]? = some o → noSel o
  le : m ≤ ops.size
theorem OkS.s0 {ops : Array Oper} {m : Nat} (h : OkS ops m) : OkS0 ops m := ⟨h.lt, h.free, h.sel, h.le⟩
structure OkD (l : List Oper) (m : Nat) : Prop where
  s : OkS0 l.toArray m
  dst : ∀ (k j : Nat) o oj t, k < m → j < m → l[k]? = some o → l[j]? = some oj → oj.dst = some t → k ≠ j → o.dst ≠ some t
  rd : ∀ (k j : Nat) o oj t, k < m → j < m → l[k]? = some o → l[j]? = some oj → oj.dst = some t → t ∈ opTmps o → anc l.toArray k j = true
  gd : ∀ (k : Nat) o j b, k < m → l[k]? = some o → o.guard = some (j, b) → anc l.toArray k j = true ∧ j < m
theorem okD_of {l : List Oper} {m : Nat} (h1 : OkS0 l.toArray m) (h2 : okP l m = true) : OkD l m := by
  unfold okP at h2
  have h2 : ∀ k, k < m → _ := fun k hk => List.all_eq_true.1 h2 k (List.mem_range.2 hk)
  have key : ∀ (k j : Nat) o oj t, k < m → j < m → l[k]? = some o → l[j]? = some oj → oj.dst = some t → (k == j || o.dst != some t) = true ∧ (!(opTmps o).contains t || anc l.toArray k j) = true := by
    intro k j o oj t hk hj ho hoj ht
    have := h2 k hk
    rw [nth_eq, ho] at this
    simp only [Bool.and_eq_true] at this
    have := List.all_eq_true.1 this.1 j (List.mem_range.2 hj)
    rw [nth_eq, hoj] at this
    simp only [ht, Bool.and_eq_true] at this
    exact this
  refine ⟨h1, fun k j o oj t hk hj ho hoj ht hne => ?_, fun k j o oj t hk hj ho hoj ht hm => ?_, fun k o j b hk ho hg => ?_⟩
  · have := (key k j o oj t hk hj ho hoj ht).1
    simp only [Bool.or_eq_true, beq_iff_eq, bne_iff_ne] at this
    exact this.resolve_left hne
  · have := (key k j o oj t hk hj ho hoj ht).2
    simp only [Bool.or_eq_true, Bool.not_eq_true', List.contains_iff_mem] at this
    rcases this with h | h
    · have : (opTmps o).contains t = true := by simpa using hm
      rw [h] at this; cases this
    · exact h
  · have := h2 k hk
    rw [nth_eq, ho] at this
    simp only [Bool.and_eq_true, hg] at this
    have := this.2
    rw [Nat.blt_eq] at this
    exact this

theorem okD_spec {l : List Oper} {m : Nat} (h : okD l m = true) : OkD l m := by
  unfold okD at h
  rw [Bool.and_eq_true] at h
  exact okD_of (okS_spec h.1).s0 h.2
theorem okD_s {l : List Oper} {m : Nat} (h : okD l m = true) : OkS l.toArray m := by
  unfold okD at h
  rw [Bool.and_eq_true] at h
  exact okS_spec h.1
def txt (k : Nat) : Nat → Bool := fun j => Nat.blt j k
def add (S : Nat → Bool) (k : Nat) : Nat → Bool := fun j => j == k || S j
/-- Operation k, as the text's order finds it, is shown to do what it is said to do. -/
def CStep (P : Program) (l : List Oper) (σ : St) (D : List (Oper × DR)) (k : Nat) : Prop :=
  ∀ p, D[k]? = some p → (wantA l (σS σ D (txt k)) p.1 = some true ∧ DStep P (σS σ D (txt k)).ev σ.H (idD σ.H.length D k) p.1 p.2) ∨ (wantA l (σS σ D (txt k)) p.1 = some false ∧ p.2 = ⟨.lit undef, none⟩)
structure DOk (l : List Oper) (m : Nat) (D : List (Oper × DR)) : Prop where
  ok : OkD l m
  len : D.length = m
  op : ∀ (k : Nat) p, D[k]? = some p → l[k]? = some p.1
section
variable {l : List Oper} {m : Nat} {D : List (Oper × DR)} {σ : St} {S : Nat → Bool} {B : Base P} {a : Act}
theorem DOk.lt (h : DOk l m D) {k : Nat} {p : Oper × DR} (hk : D[k]? = some p) : k < m := by rw [← h.len]; exact (List.getElem?_eq_some_iff.1 hk).1
theorem DOk.uniq (h : DOk l m D) {j j' : Nat} {p q : Oper × DR} {t : Nat} (hp : D[j]? = some p) (hq : D[j']? = some q) (hne : j' ≠ j) (hd : p.1.dst = some t) : q.1.dst ≠ some t :=
  h.ok.dst j' j q.1 p.1 t (h.lt hq) (h.lt hp) (h.op _ _ hq) (h.op _ _ hp) hd hne
theorem slot_in (h : DOk l m D) {j : Nat} {p : Oper × DR} {t : Nat} (hp : D[j]? = some p) (hs : S j = true) (hd : p.1.dst = some t) (hl : t < σ.s.length) : (σS σ D S).s[t]? = some p.2.x :=
  slotsS_at S t 0 D σ.s j p hp (by simpa using hs) hd hl fun j' q hq hne => h.uniq hp hq hne hd
theorem slot_out {t : Nat} (hn : ∀ (j : Nat) p, D[j]? = some p → S j = true → p.1.dst ≠ some t) : (σS σ D S).s[t]? = σ.s[t]? :=
  slotsS_no S t 0 D σ.s fun j p hp hs => hn j p hp (by simpa using hs)
theorem slot_len : (σS σ D S).s.length = σ.s.length := slotsS_len S 0 D σ.s
theorem anc_lt' (h : OkS0 l.toArray m) (j : Nat) : ∀ (k : Nat), k < l.toArray.size → anc l.toArray k j = true → j < k := by
  intro k
  induction k using Nat.strongRecOn with
  | _ k ih =>
    intro hk ha
    obtain ⟨e, he, hb, hh⟩ := (anc_iff (Array.getElem?_eq_getElem hk) (h.lt k _ (Array.getElem?_eq_getElem hk)) j).1 ha
    have h1 := h.lt k _ (Array.getElem?_eq_getElem hk) e he hb
    rcases hh with hh | hh
    · omega
    · have := ih e.on h1 (by omega) hh; omega
theorem anc_lt (h : DOk l m D) {k j : Nat} (hk : k < m) (ha : anc l.toArray k j = true) : j ≤ k := by
  have := anc_lt' h.ok.s j k (Nat.lt_of_lt_of_le hk h.ok.s.le) ha
  omega
theorem slot_same (h : DOk l m D) {k t : Nat} (hk : k < m) (hS : S k = false) (hanc : ∀ j, anc l.toArray k j = true → S j = true) (hr : ∀ (j : Nat) p, D[j]? = some p → p.1.dst = some t → anc l.toArray k j = true) :
    (σS σ D S).s[t]? = (σS σ D (txt k)).s[t]? := by
  by_cases hl : t < σ.s.length
  · by_cases he : ∃ (j : Nat) (p : Oper × DR), D[j]? = some p ∧ p.1.dst = some t
    · obtain ⟨j, p, hp, hd⟩ := he
      have ha := hr j p hp hd
      have hj := anc_lt h hk ha
      have hne : j ≠ k := by rintro rfl; rw [hanc j ha] at hS; cases hS
      rw [slot_in h hp (hanc j ha) hd hl, slot_in h hp (by unfold txt; rw [Nat.blt_eq]; omega) hd hl]
    · rw [slot_out fun j p hp _ hd => he ⟨j, p, hp, hd⟩, slot_out fun j p hp _ hd => he ⟨j, p, hp, hd⟩]
  · rw [List.getElem?_eq_none (by rw [slot_len]; omega), List.getElem?_eq_none (by rw [slot_len]; omega)]
theorem want_same (h : DOk l m D) {k : Nat} {p : Oper × DR} (hp : D[k]? = some p) (hS : S k = false) (hanc : ∀ j, anc l.toArray k j = true → S j = true) : wantA l (σS σ D S) p.1 = wantA l (σS σ D (txt k)) p.1 := by
  unfold wantA
  cases hg : p.1.guard with
  | none => rfl
  | some g =>
    obtain ⟨j, b⟩ := g
    simp only
    cases hj : nth l j with
    | none => rfl
    | some oj =>
      simp only
      cases hd : oj.dst with
      | none => rfl
      | some t =>
        simp only [nth_eq]
        have hjm := (h.ok.gd k p.1 j b (h.lt hp) (h.op k p hp) hg)
        rw [slot_same h (h.lt hp) hS hanc fun j' q hq hdq => by
          have : j' = j := by
            apply Classical.byContradiction
            intro hne
            rw [nth_eq] at hj
            exact h.ok.dst j' j q.1 oj t (h.lt hq) hjm.2 (h.op _ _ hq) hj hd hne hdq
          rw [this]; exact hjm.1]
theorem ev_same (h : DOk l m D) {k : Nat} {p : Oper × DR} (hp : D[k]? = some p) (hS : S k = false) (hanc : ∀ j, anc l.toArray k j = true → S j = true) : ∀ y ∈ p.1.op.operands, (σS σ D S).ev y = (σS σ D (txt k)).ev y := by
  intro y hy
  cases y with
  | tmp t =>
    simp only [St.ev, nth_eq]
    rw [slot_same h (h.lt hp) hS hanc fun j q hq hd => h.ok.rd k j p.1 q.1 t (h.lt hp) (h.lt hq) (h.op _ _ hp) (h.op _ _ hq) hd (by
      unfold opTmps
      rw [List.mem_filterMap]
      exact ⟨_, Array.mem_toList_iff.2 hy, rfl⟩)]
  | const | func | global => rfl
/-- No number yet for what is not made. -/
def Un (μ : Mu) (n : Nat) (D : List (Oper × DR)) (S : Nat → Bool) : Prop := ∀ (k : Nat) p ob, D[k]? = some p → p.2.N = some ob → S k = false → μ (idD n D k) = none
theorem H_old (i : Nat) (ob : AObj) (hi : σ.H[i]? = some ob) : (σS σ D S).H[i]? = some ob := by
  have hlt := (List.getElem?_eq_some_iff.1 hi).1
  simp only [σS]
  rw [List.getElem?_append_left hlt]; exact hi
theorem H_len : (σS σ D S).H.length = σ.H.length + nNews D := by simp [σS, newsS_len]
theorem idD_at {k : Nat} {p : Oper × DR} {ob : AObj} (hp : D[k]? = some p) (hN : p.2.N = some ob) : (σS σ D S).H[idD σ.H.length D k]? = some (match S k with | true => ob | false => { ob with st := 2 }) := by
  simp only [σS, idD]
  rw [List.getElem?_append_right (by omega), Nat.add_sub_cancel_left]
  have := newsS_get S 0 D k p ob hp hN
  rw [Nat.zero_add] at this
  exact this
theorem H_cases {i : Nat} {o : AObj} (hi : (σS σ D S).H[i]? = some o) : (i < σ.H.length ∧ σ.H[i]? = some o) ∨ ∃ (k : Nat) (p : Oper × DR) (ob : AObj), D[k]? = some p ∧ p.2.N = some ob ∧ i = idD σ.H.length D k ∧ o = (match S k with | true => ob | false => { ob with st := 2 }) := by
  simp only [σS] at hi
  by_cases hlt : i < σ.H.length
  · rw [List.getElem?_append_left hlt] at hi
    exact .inl ⟨hlt, hi⟩
  · rw [List.getElem?_append_right (by omega)] at hi
    obtain ⟨k, p, ob, h1, h2, h3, h4⟩ := newsS_all S 0 D _ o hi
    exact .inr ⟨k, p, ob, h1, h2, by unfold idD; omega, by rw [Nat.zero_add] at h4; exact h4⟩
theorem add_ne {k j : Nat} (h : j ≠ k) : add S k j = S j := by simp [add, h]
theorem add_eq {k : Nat} : add S k k = true := by simp [add]
/-- Slots, once operation k has answered. -/
theorem slots_add (h : DOk l m D) {k : Nat} {p : Oper × DR} (hp : D[k]? = some p) (hS : S k = false) {t : Nat} (ht : p.1.dst ≠ some t) : (σS σ D (add S k)).s[t]? = (σS σ D S).s[t]? := by
  by_cases hl : t < σ.s.length
  · by_cases he : ∃ (j : Nat) (q : Oper × DR), D[j]? = some q ∧ S j = true ∧ q.1.dst = some t
    · obtain ⟨j, q, hq, hs, hd⟩ := he
      rw [slot_in h hq (by simp [add, hs]) hd hl, slot_in h hq hs hd hl]
    · rw [slot_out (S := S) fun j q hq hs hd => he ⟨j, q, hq, hs, hd⟩, slot_out fun j q hq hs hd => ?_]
      by_cases hj : j = k
      · subst hj; rw [hp] at hq; injection hq with hq; subst hq; exact ht hd
      · rw [add_ne hj] at hs; exact he ⟨j, q, hq, hs, hd⟩
  · rw [List.getElem?_eq_none (by rw [slot_len]; omega), List.getElem?_eq_none (by rw [slot_len]; omega)]
/-- Operation k has answered without an object. -/
theorem step_plain (h : DOk l m D) {k : Nat} {p : Oper × DR} (hp : D[k]? = some p) (hS : S k = false) (hN : p.2.N = none) (hr : SRel B μ (σS σ D S) a w) (hb : Below w.heap.size w w') {u : Value} (hu : RV (OO B.X (σS σ D S).H μ) w' μ p.2.x u) :
    SRel B μ (σS σ D (add S k)) (a.put p.1.dst u) w' := by
  have hH : (σS σ D (add S k)).H = (σS σ D S).H := by
    have : ∀ i : Nat, (σS σ D (add S k)).H[i]? = (σS σ D S).H[i]? := by
      intro i
      cases hi : (σS σ D S).H[i]? with
      | none => rw [List.getElem?_eq_none_iff] at hi ⊢; rw [H_len] at hi ⊢; exact hi
      | some o =>
        rcases H_cases hi with ⟨hlt, h1⟩ | ⟨j, q, ob, h1, h2, h3, h4⟩
        · exact H_old i o h1
        · have hj : j ≠ k := by rintro rfl; rw [hp] at h1; injection h1 with h1; subst h1; rw [hN] at h2; cases h2
          rw [h3, idD_at h1 h2, add_ne hj, h4]
    exact List.ext_getElem? this
  refine ⟨?_, fun t x v hx hv => ?_, by rw [hH]; exact hr.H.below hb, by have := hr.df.step (Chg.of_below hb) (Ext.refl _ _) (hr.H.below hb).lt; cases hd : p.1.dst <;> exact this, hr.chg.trans hr.ext (.of_below hb), hr.ext.trans hr.chg.size (Ext.refl _ _), hr.nb, by rw [hH]; exact hr.le, fun j x v hj hx => by rw [hH]; exact (hr.pres j x v hj hx).later hb⟩
  · rw [slot_len, ← slot_len (S := S) (D := D), hr.size]; cases p.1.dst <;> simp [Act.put]
  · rw [hH]
    by_cases hd : p.1.dst = some t
    · have hl : t < σ.s.length := by rw [← slot_len (S := add S k) (D := D)]; exact (List.getElem?_eq_some_iff.1 hx).1
      rw [slot_in h hp add_eq hd hl] at hx
      injection hx with hx; subst hx
      rw [hd] at hv
      simp only [Act.put] at hv
      rw [Array.getElem?_setIfInBounds_self] at hv
      split at hv
      · injection hv with hv; subst hv; exact hu
      · cases hv
    · rw [slots_add h hp hS hd] at hx
      refine (hr.slot t x v hx ?_).later hb
      rw [← hv]
      cases hd' : p.1.dst with
      | none => rfl
      | some t' => simp only [Act.put]; rw [Array.getElem?_setIfInBounds_ne]; rintro rfl; exact hd hd'
/-- Operation k has made its object. -/
theorem step_new (h : DOk l m D) {k : Nat} {p : Oper × DR} (hp : D[k]? = some p) (hS : S k = false) {ob : AObj} (hN : p.2.N = some ob) (hr : SRel B μ (σS σ D S) a w) (hun : Un μ σ.H.length D S) (hb : Below w.heap.size w w') {u : Value} {b mb : Nat} {cur : Array Value}
    (h1 : w.heap.size ≤ b) (h2 : b < w'.heap.size) (hz : 0 < ob.sz) (hst : ob.st = 0) (hin : ObjIn (fun c => OO B.X (σS σ D S).H μ c ∨ c = b) w' μ b mb ob cur) (hu : ∀ (O' : Nat → Prop) (μ' : Mu), (∀ c, O' c → OO B.X (σS σ D S).H μ c ∨ c = b) → (∀ i l, μ i = some l → μ' i = some l) → μ' (idD σ.H.length D k) = some (some (b, mb)) → RV O' w' μ' p.2.x u) :
    ∃ μ', SRel B μ' (σS σ D (add S k)) (a.put p.1.dst u) w' ∧ Un μ' σ.H.length D (add S k) := by
  let id := idD σ.H.length D k
  let μ' : Mu := fun i => if i = id then some (some (b, mb)) else μ i
  have hid : μ id = none := hun k p ob hp hN hS
  have hmu : ∀ i l, μ i = some l → μ' i = some l := fun i l hi => by simp only [μ']; rw [if_neg (by rintro rfl; rw [hid] at hi; cases hi)]; exact hi
  have hHne : ∀ i : Nat, i ≠ id → (σS σ D (add S k)).H[i]? = (σS σ D S).H[i]? := by
    intro i hne
    cases hi : (σS σ D S).H[i]? with
    | none => rw [List.getElem?_eq_none_iff] at hi ⊢; rw [H_len] at hi ⊢; exact hi
    | some o =>
      rcases H_cases hi with ⟨hlt, h1⟩ | ⟨j, q, ob', g1, g2, g3, g4⟩
      · exact H_old i o h1
      · have hj : j ≠ k := by rintro rfl; exact hne g3
        rw [g3, idD_at g1 g2, add_ne hj, g4]
  have hHid : (σS σ D (add S k)).H[id]? = some ob := by
    have := idD_at (σ := σ) (S := add S k) hp hN
    rw [add_eq] at this; exact this
  have hidlt : id < (σS σ D S).H.length := by rw [H_len, ← H_len (S := add S k)]; exact (List.getElem?_eq_some_iff.1 hHid).1
  have hoo : ∀ c, c < w.heap.size → OO B.X (σS σ D (add S k)).H μ' c → OO B.X (σS σ D S).H μ c := by
    rintro c hc (hx | ⟨i, o, m', hi, hs, hm'⟩)
    · exact .inl hx
    · simp only [μ'] at hm'
      split at hm'
      · injection hm' with hm'; injection hm' with hm'; injection hm' with e1 e2; omega
      · rename_i hne
        rw [hHne i hne] at hi
        exact .inr ⟨i, o, m', hi, hs, hm'⟩
  have up : ∀ {ν ν' : Mu} {x : AV} {v : Value}, RV (OO B.X (σS σ D S).H μ) w ν x v → (∀ i l, ν i = some l → ν' i = some l) → RV (OO B.X (σS σ D (add S k)).H μ') w' ν' x v := fun hx hn => hx.mono hoo (fun c hc _ => hb.block c hc) _ hn
  have hoo' : ∀ c, OO B.X (σS σ D (add S k)).H μ' c → OO B.X (σS σ D S).H μ c ∨ c = b := by
    rintro c (hx | ⟨i, o, m', hi, hs, hm'⟩)
    · exact .inl (.inl hx)
    · simp only [μ'] at hm'
      split at hm'
      · injection hm' with hm'; injection hm' with hm'; injection hm' with e1 e2; exact .inr e1.symm
      · rename_i hne
        rw [hHne i hne] at hi
        exact .inl (.inr ⟨i, o, m', hi, hs, hm'⟩)
  have hext : Ext μ w μ' := fun i c m1 hi => by
    simp only [μ'] at hi
    split at hi
    · injection hi with hi; injection hi with hi; injection hi with e1 e2
      exact .inr (by omega)
    · exact .inl ⟨i, m1, hi⟩
  have hlt' : ∀ i c m1, μ' i = some (some (c, m1)) → c < w'.heap.size ∧ ¬ B.X c := fun i c m1 hi => by
    simp only [μ'] at hi
    split at hi
    · injection hi with hi; injection hi with hi; injection hi with e1 e2
      subst e1
      exact ⟨h2, fun hx => by have := hr.H.xlt _ hx; omega⟩
    · have := hr.H.lt i c m1 hi
      exact ⟨Nat.lt_of_lt_of_le this.1 hb.size, this.2⟩
  refine ⟨μ', ⟨?_, fun t x v hx hv => ?_, ⟨fun i l hi => ?_, fun i j c m1 m2 hi hj => ?_, fun i c m1 hi => ?_, fun i o hi hs => ?_, fun c hx => Nat.lt_of_lt_of_le (hr.H.xlt c hx) hb.size, hr.H.gl.step hb.size (fun b hlt _ _ => hb.block b hlt) (fun _ h => .inl h) fun i b m hi => (hext i b m hi).imp (fun h => h) .inr⟩, by have := hr.df.step (Chg.of_below hb) hext hlt'; cases hd : p.1.dst <;> exact this, hr.chg.trans hr.ext (.of_below hb), fun i c m1 hi => ?_, hr.nb, ?_, fun j x v hj hx => up (hr.pres j x v hj hx) (upto_mono hmu)⟩, fun j q ob' hq hN' hs => ?_⟩
  · rw [slot_len, ← slot_len (S := S) (D := D), hr.size]; cases p.1.dst <;> simp [Act.put]
  · by_cases hd : p.1.dst = some t
    · have hl : t < σ.s.length := by rw [← slot_len (S := add S k) (D := D)]; exact (List.getElem?_eq_some_iff.1 hx).1
      rw [slot_in h hp add_eq hd hl] at hx
      injection hx with hx; subst hx
      rw [hd] at hv
      simp only [Act.put] at hv
      rw [Array.getElem?_setIfInBounds_self] at hv
      split at hv
      · injection hv with hv; subst hv; exact hu _ _ hoo' hmu (by simp [μ', id])
      · cases hv
    · rw [slots_add h hp hS hd] at hx
      refine up (hr.slot t x v hx ?_) hmu
      rw [← hv]
      cases hd' : p.1.dst with
      | none => rfl
      | some t' => simp only [Act.put]; rw [Array.getElem?_setIfInBounds_ne]; rintro rfl; exact hd hd'
  · simp only [μ'] at hi
    rw [H_len, ← H_len (S := S)]
    split at hi
    · subst i; exact hidlt
    · exact hr.H.dom i l hi
  · simp only [μ'] at hi hj
    split at hi <;> split at hj
    · omega
    · injection hi with hi; injection hi with hi; injection hi with e1 e2
      have := (hr.H.lt j c m2 hj).1; omega
    · injection hj with hj; injection hj with hj; injection hj with e1 e2
      have := (hr.H.lt i c m1 hi).1; omega
    · exact hr.H.inj i j c m1 m2 hi hj
  · simp only [μ'] at hi
    split at hi
    · injection hi with hi; injection hi with hi; injection hi with e1 e2
      subst e1
      exact ⟨h2, fun hx => by have := hr.H.xlt _ hx; omega⟩
    · have := hr.H.lt i c m1 hi
      exact ⟨Nat.lt_of_lt_of_le this.1 hb.size, this.2⟩
  · by_cases hne : i = id
    · subst hne
      rw [hHid] at hi; injection hi with hi; subst hi
      refine ⟨hz, .inr ⟨b, mb, cur, by simp [μ'], ⟨hin.blk, hin.size, hin.le, hin.nle, hin.one, hin.flen, fun k j a v hk ha hv => ?_⟩⟩⟩
      refine (hin.cell k j a v hk ha hv).mono (fun c _ hc => hoo' c hc) (fun _ _ _ => rfl) _ fun i l hi => ?_
      split
      · rename_i hpu; rw [if_pos hpu] at hi; exact hi
      · rename_i hpu; rw [if_neg hpu] at hi; exact hmu i l hi
    · rw [hHne i hne] at hi
      exact (hr.H.obj i o hi hs).mono hoo (fun c hc _ => hb.block c hc) hmu fun c m1 hm1 => hb.block c (hr.H.lt i c m1 hm1).1
  · simp only [μ'] at hi
    split at hi
    · injection hi with hi; injection hi with hi; injection hi with e1 e2
      exact .inr (by have := hr.chg.size; omega)
    · exact hr.ext i c m1 hi
  · rw [H_len, ← H_len (S := S)]; exact hr.le
  · have hj : j ≠ k := by rintro rfl; rw [add_eq] at hs; cases hs
    rw [add_ne hj] at hs
    simp only [μ']
    rw [if_neg]
    · exact hun j q ob' hq hN' hs
    · intro he
      unfold id idD at he
      exact hj (nNews_inj D j k q p ob' ob hq hp hN' hN (by omega))
end
end
end Go.Proofs.YthdckgcalooipaaDoor
namespace Go.Proofs.YthdckgcalooipaaDoor
section
open Go.RowKit
set_option linter.unusedVariables false
set_option linter.unusedSimpArgs false
set_option linter.unusedSectionVars false
variable {P : Program} {tab : Tab} {r : Option Nat} {Q : Exit → St → Prop}

section
variable {F : Fence} {n : Nat} {Q : Exit → Act → World → Prop} {ops : Array Oper} {m : Nat}
theorem any_of_tailIn (ok : OkS0 ops m) (tl : ∀ i j, m ≤ j → i < ops.size → j < i → anc ops i j = true) : ∀ (fuel k : Nat) (listed : Array Bool) (a : Act) (w : World), listed.size = ops.size → (∀ j, listed.getD j false = decide (j < k)) → m ≤ k → k ≤ ops.size → ops.size - k ≤ fuel →
    wpListIn F n P ops Q (ops.toList.drop k) a w → wpAnyIn F n P .any ops Q fuel listed a w := by
  intro fuel
  induction fuel with
  | zero =>
    intro k listed a w hs hl hm hk hf h
    have : k = ops.size := by omega
    subst this
    rw [List.drop_eq_nil_of_le (by simp)] at h
    refine ⟨?_, h⟩
    rw [List.eq_nil_iff_forall_not_mem]
    intro i hi
    obtain ⟨h0, o, ho, _⟩ := mem_ready.1 hi
    have hlt := (Array.getElem?_eq_some_iff.1 ho).1
    have := hl i
    rw [Array.getD_eq_getD_getElem?, Array.getElem?_eq_getElem (by omega)] at h0 this
    simp only [Option.getD_some] at h0 this
    rw [h0] at this
    simp [hlt] at this
  | succ fuel ih =>
    intro k listed a w hs hl hm hk hf h
    have hgd : ∀ i, i < ops.size → listed.getD i true = decide (i < k) := fun i hi => by
      have := hl i
      rw [Array.getD_eq_getD_getElem?, Array.getElem?_eq_getElem (by omega)] at this ⊢
      exact this
    have only : ∀ i, i ∈ Region.ready .any ops listed → i = k := by
      intro i hi
      obtain ⟨h0, o, ho, ha⟩ := mem_ready.1 hi
      have hlt := (Array.getElem?_eq_some_iff.1 ho).1
      rw [hgd i hlt] at h0
      have h0 : k ≤ i := by simpa using h0
      rcases Nat.lt_or_ge k i with h1 | h1
      · exfalso
        obtain ⟨e, he, hb, hh⟩ := (anc_iff ho (ok.lt i o ho) k).1 (tl i k hm hlt h1)
        have h2 := ha e he hb
        rw [hl] at h2
        have h2 : e.on < k := by simpa using h2
        rcases hh with hh | hh
        · omega
        · cases hoe : ops[e.on]? with
          | none => have := ok.lt i o ho e he hb; simp at hoe; omega
          | some oe =>
            cases hok : ops[k]? with
            | none => simp at hok; omega
            | some okk =>
              rw [(ok.free k e.on okk oe hok hoe h2).1] at hh
              cases hh
      · omega
    refine ⟨fun hr => ?_, fun i hi => ?_⟩
    · have : k = ops.size := by
        rcases Nat.lt_or_ge k ops.size with h1 | h1
        · exfalso
          have : k ∈ Region.ready .any ops listed := by
            rw [mem_ready]
            refine ⟨by rw [hgd k h1]; simp, ops[k], Array.getElem?_eq_getElem h1, fun e he hb => ?_⟩
            rw [hl]
            simpa using ok.lt k _ (Array.getElem?_eq_getElem h1) e he hb
          rw [hr] at this
          cases this
        · omega
      subst this
      rw [List.drop_eq_nil_of_le (by simp)] at h
      exact h
    · obtain rfl := only i hi
      obtain ⟨_, o, ho, _⟩ := mem_ready.1 hi
      have hlt := (Array.getElem?_eq_some_iff.1 ho).1
      have hd : ops.toList.drop i = o :: ops.toList.drop (i + 1) := by
        rw [List.drop_eq_getElem_cons (by simpa using hlt)]
        congr 1
        have := (Array.getElem?_eq_some_iff.1 ho).2
        simpa using this
      rw [hd] at h
      have h2 : wpOpIn F n P ops Q i (wpListIn F n P ops Q (ops.toList.drop (i + 1))) a w := by
        unfold wpOpIn
        rw [ho]
        unfold wpListIn at h
        exact h
      refine wpOpIn_mono (fun a' w' h' => ih (i + 1) _ a' w' (by simpa using hs) (fun j => ?_) (by omega) (by omega) (by omega) h') h2
      by_cases hj : i = j
      · subst hj
        rw [Array.getD_eq_getD_getElem?, Array.getElem?_setIfInBounds_self]
        rw [if_pos (by omega)]; simp
      · rw [getD_set_ne _ hj, hl]
        simp only [decide_eq_decide]
        omega
end
theorem stepOk_wpIn {o : Oper} {a : Act} {w : World} {R : Value → World → Prop} {K : Act → World → Prop} {Q : Exit → Act → World → Prop} (hd : ∀ c, o.op ≠ .defer c)
    (h : StepOk P (execOp a.eval o) w R) (hk : ∀ v w', R v w' → K (a.put o.dst v) w') : o.wpIn (fw r) 0 P a w K Q := by
  refine ⟨fun f _ => fw_fn r f, ?_⟩
  rw [Oper.semAt_eq _ _ _ hd]
  unfold StepOk at h
  generalize (execOp a.eval o).run P w = rr at *
  cases rr with
  | ok n w' =>
    cases n <;> simp only [Oper.uponIn] at h ⊢
    case value v => exact hk _ _ h
    case skip => exact hk _ _ h
    case enter f args => exact ⟨fun hd => by simp [fw, Fence.wide] at hd, (show CallsIn (fw r) (0 - 1) P f args w' _ from callsIn_wide.2 h).mono fun e w'' he => by cases e <;> first | exact hk _ _ he | exact he.elim⟩
    case row row args =>
      refine ⟨fun hd => by simp [fw, Fence.wide] at hd, fun c cs _ => ?_⟩
      obtain ⟨v, w'', h1, h2⟩ := h c cs
      refine ⟨v, w'', hk _ _ h1, ?_⟩
      exact (StepsIn.of_steps h2).mono fun m _ => (fenced_wide P m : Machine.fenced P Fence.wide m)
  | halt x w' => exact h.elim
def nDefer (o : Oper) : Bool := match o.op with | .defer _ => false | _ => true
theorem draw_any {l : List Oper} {m : Nat} {D : List (Oper × DR)} {σ : St} {B : Base P} (hS0 : OkS l.toArray m) (h : DOk l m D) (hnd : l.all nDefer = true) (hc : ∀ k, k < m → CStep P l σ D k)
    (ht : AL P r l Q (l.drop m) (σS σ D fun _ => true)) : ∀ (fuel : Nat) (listed : Array Bool) (a : Act) (w : World) (μ : Mu), listed.size = l.length → (∀ i, listed.getD i false = true → ∀ j, anc l.toArray i j = true → listed.getD j false = true) → (∀ j, m ≤ j → listed.getD j false = false) →
    ((List.range m).filter fun j => !listed.getD j true).length + (l.length - m) ≤ fuel → SRel B μ (σS σ D fun j => listed.getD j false) a w → Un μ σ.H.length D (fun j => listed.getD j false) →
    wpAnyIn (fw r) 0 P .any l.toArray (Post B Q) fuel listed a w := by
  have hml : m ≤ l.length := by have := h.ok.s.le; simpa using this
  have done : ∀ {fuel : Nat} {listed : Array Bool} {a : Act} {w : World} {μ : Mu}, listed.size = l.length → (∀ j, m ≤ j → listed.getD j false = false) → ((List.range m).filter fun j => !listed.getD j true) = [] → l.length - m ≤ fuel → SRel B μ (σS σ D fun j => listed.getD j false) a w →
      wpAnyIn (fw r) 0 P .any l.toArray (Post B Q) fuel listed a w := by
    intro fuel listed a w μ hs htl hR hf hr
    have hall : ∀ j, j < m → listed.getD j false = true := fun j hj => by
      have := List.filter_eq_nil_iff.1 hR j (List.mem_range.2 hj)
      rw [← getD_true_false (by omega)]; simpa using this
    have hsame : (σS σ D fun j => listed.getD j false) = σS σ D fun _ => true := by
      have key : ∀ (D' : List (Oper × DR)) (k : Nat), k + D'.length = m → (∀ s, slotsS (fun j => listed.getD j false) k D' s = slotsS (fun _ => true) k D' s) ∧ newsS (fun j => listed.getD j false) k D' = newsS (fun _ => true) k D' := by
        intro D'
        induction D' with
        | nil => intro k _; exact ⟨fun s => rfl, rfl⟩
        | cons p D' ih =>
          intro k hk
          simp only [List.length_cons] at hk
          obtain ⟨i1, i2⟩ := ih (k + 1) (by omega)
          exact ⟨fun s => by simp only [slotsS]; rw [i1, hall k (by omega)], by simp only [newsS]; rw [i2, hall k (by omega)]⟩
      obtain ⟨k1, k2⟩ := key D 0 (by rw [h.len]; omega)
      unfold σS
      rw [k1, k2]
    rw [hsame] at hr
    refine any_of_tailIn hS0.s0 (fun i j hj hi hlt => hS0.tail i j (by omega) hi hlt) fuel m listed a w (by simpa using hs) (fun j => ?_) (Nat.le_refl _) (by simpa using hml) (by simpa using hf) (by simpa using ht B μ a w hr)
    by_cases hj : j < m
    · rw [hall j hj]; simp [hj]
    · rw [htl j (by omega)]; simp [hj]
  intro fuel
  induction fuel with
  | zero =>
    intro listed a w μ hs hcl htl hf hr hun
    exact done hs htl (List.eq_nil_of_length_eq_zero (by omega)) (by omega) hr
  | succ fuel ih =>
    intro listed a w μ hs hcl htl hf hr hun
    by_cases hR : (List.range m).filter (fun j => !listed.getD j true) = []
    · rw [hR] at hf
      exact done hs htl hR (by simp at hf; omega) hr
    have hmem : ∀ j, j ∈ (List.range m).filter (fun j => !listed.getD j true) ↔ j < m ∧ listed.getD j true = false := fun j => by simp
    have hpw : ((List.range m).filter fun j => !listed.getD j true).Pairwise (· < ·) := List.Pairwise.filter _ List.pairwise_lt_range
    have hanc : ∀ i, i ∈ Region.ready .any l.toArray listed → ∀ j, anc l.toArray i j = true → listed.getD j false = true := by
      intro i hi j hj
      obtain ⟨_, o, ho, ha⟩ := mem_ready.1 hi
      obtain ⟨e, he, hb, hh⟩ := (anc_iff ho (h.ok.s.lt i o ho) j).1 hj
      rcases hh with rfl | hh
      · exact ha e he hb
      · exact hcl _ (ha e he hb) j hh
    refine ⟨fun hrd => ?_, fun i hi => ?_⟩
    · exfalso
      obtain ⟨i, R', hRe⟩ : ∃ i R', (List.range m).filter (fun j => !listed.getD j true) = i :: R' := by
        cases hc' : (List.range m).filter (fun j => !listed.getD j true) with
        | nil => exact absurd hc' hR
        | cons i R' => exact ⟨i, R', rfl⟩
      have him := (hmem i).1 (by rw [hRe]; simp)
      have hlow : ∀ j, j < i → listed.getD j false = true := by
        intro j hj
        rw [← getD_true_false (by omega)]
        cases hc' : listed.getD j true with
        | true => rfl
        | false =>
          have : j ∈ i :: R' := by rw [← hRe]; exact (hmem j).2 ⟨by omega, hc'⟩
          rw [hRe, List.pairwise_cons] at hpw
          rcases List.mem_cons.1 this with h1 | h1
          · omega
          · have := hpw.1 j h1; omega
      have hil : i < l.toArray.size := by simp; omega
      have : i ∈ Region.ready .any l.toArray listed := by
        rw [mem_ready]
        exact ⟨him.2, l.toArray[i], Array.getElem?_eq_getElem hil, fun e he hb => hlow _ (h.ok.s.lt i _ (Array.getElem?_eq_getElem hil) e he hb)⟩
      rw [hrd] at this
      cases this
    · obtain ⟨h0, o, ho, _⟩ := mem_ready.1 hi
      have hlt := (Array.getElem?_eq_some_iff.1 ho).1
      have him : i < m := by
        rcases Nat.lt_or_ge i m with h1 | h1
        · exact h1
        · exfalso
          obtain ⟨q, hq⟩ : ∃ q, q ∈ (List.range m).filter (fun j => !listed.getD j true) := by
            cases hc' : (List.range m).filter (fun j => !listed.getD j true) with
            | nil => exact absurd hc' hR
            | cons q R' => exact ⟨q, by simp⟩
          have hq := (hmem q).1 hq
          have := hanc i hi q (hS0.tail i q h1 hlt (by omega))
          rw [← getD_true_false (by omega), hq.2] at this
          cases this
      have hS : listed.getD i false = false := by rw [← getD_true_false (by omega)]; exact h0
      have hDi : i < D.length := by rw [h.len]; exact him
      have hp : D[i]? = some D[i] := List.getElem?_eq_getElem hDi
      have hop := h.op i _ hp
      have hoe : o = D[i].1 := by
        simp only [List.getElem?_toArray] at ho
        rw [hop] at ho; injection ho with ho; exact ho.symm
      have hset : (fun j => (listed.setIfInBounds i true).getD j false) = add (fun j => listed.getD j false) i := by
        funext j
        by_cases hj : i = j
        · subst hj
          rw [add_eq, Array.getD_eq_getD_getElem?, Array.getElem?_setIfInBounds_self, if_pos (by omega)]; rfl
        · rw [getD_set_ne _ hj, add_ne (Ne.symm hj)]
      have hnext : ∀ (a' : Act) (w' : World) (μ' : Mu), SRel B μ' (σS σ D (add (fun j => listed.getD j false) i)) a' w' → Un μ' σ.H.length D (add (fun j => listed.getD j false) i) →
          wpAnyIn (fw r) 0 P .any l.toArray (Post B Q) fuel (listed.setIfInBounds i true) a' w' := by
        intro a' w' μ' hr' hun'
        refine ih _ a' w' μ' (by simpa using hs) ?_ ?_ ?_ (by rw [hset]; exact hr') (by rw [hset]; exact hun')
        · intro k hk1 j hj
          by_cases hkj : i = j
          · subst hkj
            rw [Array.getD_eq_getD_getElem?, Array.getElem?_setIfInBounds_self, if_pos (by omega)]; rfl
          · rw [getD_set_ne _ hkj]
            by_cases hki : i = k
            · subst hki; exact hanc i hi j hj
            · rw [getD_set_ne _ hki] at hk1; exact hcl k hk1 j hj
        · intro j hj
          rw [getD_set_ne _ (by omega)]
          exact htl j hj
        · obtain ⟨R1, R2, hsp⟩ := List.append_of_mem ((hmem i).2 ⟨him, h0⟩)
          have hfil : (List.range m).filter (fun j => !(listed.setIfInBounds i true).getD j true) = R1 ++ R2 := by
            rw [← filter_pull hsp]
            congr 1
            funext j
            by_cases hj : i = j
            · subst hj
              rw [Array.getD_eq_getD_getElem?, Array.getElem?_setIfInBounds_self, if_pos (by omega)]; simp
            · rw [getD_set_ne _ hj]
              have : (j != i) = true := by simp; omega
              rw [this, Bool.true_and]
          rw [hfil]
          have : ((List.range m).filter fun j => !listed.getD j true).length = (R1 ++ R2).length + 1 := by rw [hsp]; simp; omega
          omega
      unfold wpOpIn
      rw [ho]
      simp only
      have hw := want_same (σ := σ) h hp hS (hanc i hi)
      rcases hc i him _ hp with ⟨hw1, hd⟩ | ⟨hw1, hd⟩
      · rw [hw1] at hw
        rw [hoe, if_pos (wantA_ok hw hr)]
        have hnd' : ∀ c, D[i].1.op ≠ .defer c := fun c hc' => by
          have := List.all_eq_true.1 hnd D[i].1 (List.mem_of_getElem? hop)
          unfold nDefer at this
          rw [hc'] at this; cases this
        have hstep := hd w B.X μ (σS σ D fun j => listed.getD j false).H a.eval hr.H (fun i ob hi => H_old i ob hi) (fun y hy => by rw [← ev_same h hp hS (hanc i hi) y hy]; exact hr.ev y)
        refine stepOk_wpIn hnd' hstep fun u w' ⟨hb, hres⟩ => ?_
        cases hN : D[i].2.N with
        | none =>
          rw [hN] at hres
          refine hnext _ _ μ (step_plain h hp hS hN hr hb hres) fun k p ob hk hN' hs' => ?_
          refine hun k p ob hk hN' ?_
          have : k ≠ i := by rintro rfl; rw [add_eq] at hs'; cases hs'
          rw [add_ne this] at hs'; exact hs'
        | some ob =>
          rw [hN] at hres
          obtain ⟨b, mb, cur, e1, e2, e3, e4, e5, e6⟩ := hres
          obtain ⟨μ', g1, g2⟩ := step_new h hp hS hN hr hun hb e1 e2 e3 e4 e5 e6
          exact hnext _ _ μ' g1 g2
      · rw [hw1] at hw
        rw [hoe, if_neg (by rw [wantA_ok hw hr]; simp)]
        refine ⟨fun f _ => fw_fn r f, ?_⟩
        have hN : D[i].2.N = none := by rw [hd]
        refine hnext _ _ μ (step_plain h hp hS hN hr (Below.refl _ _) (by rw [hd]; exact .lit _)) fun k p ob hk hN' hs' => ?_
        refine hun k p ob hk hN' ?_
        have : k ≠ i := by rintro rfl; rw [add_eq] at hs'; cases hs'
        rw [add_ne this] at hs'; exact hs'
/-- The walk of the first operations, in the text's order: D: what they have answered so far. -/
def AD (P : Program) (l : List Oper) (σ : St) (T : List (Oper × DR) → Prop) : List Oper → List (Oper × DR) → Prop
  | [], D => T D
  | o :: rest, D => ∃ d : DR, ((wantA l (σS σ D fun _ => true) o = some true ∧ DStep P (σS σ D fun _ => true).ev σ.H (σ.H.length + nNews D) o d) ∨ (wantA l (σS σ D fun _ => true) o = some false ∧ d = ⟨.lit undef, none⟩)) ∧ AD P l σ T rest (D ++ [(o, d)])
theorem slotsS_pre (S : Nat → Bool) : ∀ (k : Nat) (D E : List (Oper × DR)) (s : List AV), (∀ j, j < D.length → S (k + j) = true) → (∀ j, D.length ≤ j → S (k + j) = false) → slotsS S k (D ++ E) s = slotsS (fun _ => true) k D s ∧ newsS S k (D ++ E) = newsS (fun _ => true) k D ++ newsS (fun _ => false) (k + D.length) E
  | k, [], E, s, h1, h2 => by
    have key : ∀ (E : List (Oper × DR)) (k : Nat) (s : List AV), (∀ j, S (k + j) = false) → slotsS S k E s = s ∧ newsS S k E = newsS (fun _ => false) k E := by
      intro E
      induction E with
      | nil => intro k s _; exact ⟨rfl, rfl⟩
      | cons p E ih =>
        intro k s hs
        obtain ⟨i1, i2⟩ := ih (k + 1) s fun j => by rw [← hs (j + 1)]; congr 1; omega
        have h0 : S k = false := hs 0
        exact ⟨by simp only [slotsS]; rw [h0]; exact i1, by simp only [newsS]; rw [h0, i2]⟩
    obtain ⟨k1, k2⟩ := key E k s fun j => h2 j (Nat.zero_le _)
    exact ⟨by simpa [slotsS] using k1, by simpa [newsS] using k2⟩
  | k, p :: D, E, s, h1, h2 => by
    have h0 : S k = true := h1 0 (by simp)
    obtain ⟨i1, i2⟩ := slotsS_pre S (k + 1) D E (setD s p.1.dst p.2.x) (fun j hj => by rw [← h1 (j + 1) (by simp; omega)]; congr 1; omega) (fun j hj => by rw [← h2 (j + 1) (by simp; omega)]; congr 1; omega)
    refine ⟨by simp only [List.cons_append, slotsS, h0]; exact i1, ?_⟩
    simp only [List.cons_append, newsS]
    rw [i2, h0]
    simp only [List.append_assoc, List.length_cons]
    congr 3
    omega
theorem nth_dead (σ : St) (D E : List (Oper × DR)) : True := trivial
theorem aw_draw (hm : P.follows .mixedOrders = true) {id : Nat} {l : List Oper} {σ : St} (m : Nat) (hok : okD l m = true) (hnd : l.all nDefer = true)
    (h : AD P l σ (fun D => AL P r l Q (l.drop m) (σS σ D fun _ => true)) (l.take m) []) : AW P r (.region id l.toArray true) Q σ := by
  have ok := okD_spec hok
  have hml : m ≤ l.length := by have := ok.s.le; simpa using this
  -- the results, one after the other
  have key : ∀ (R : List Oper) (D0 : List (Oper × DR)), D0.length + R.length = m → (∀ (k : Nat) p, D0[k]? = some p → l[k]? = some p.1) → (∀ (j : Nat) o, R[j]? = some o → l[D0.length + j]? = some o) → AD P l σ (fun D => AL P r l Q (l.drop m) (σS σ D fun _ => true)) R D0 →
      ∃ E, (D0 ++ E).length = m ∧ (∀ (k : Nat) p, (D0 ++ E)[k]? = some p → l[k]? = some p.1) ∧ AL P r l Q (l.drop m) (σS σ (D0 ++ E) fun _ => true) ∧ ∀ k, D0.length ≤ k → k < m → CStep P l σ (D0 ++ E) k := by
    intro R
    induction R with
    | nil =>
      intro D0 hl h0 hR h
      exact ⟨[], by simpa using hl, by simpa using h0, by simpa [AD] using h, fun k hk hk' => by simp at hl; omega⟩
    | cons o R ih =>
      intro D0 hl h0 hR h
      simp only [AD] at h
      obtain ⟨d, hd, hrest⟩ := h
      obtain ⟨E, e1, e2, e3, e4⟩ := ih (D0 ++ [(o, d)]) (by simp at hl ⊢; omega) (fun k p hk => by
        by_cases hlt : k < D0.length
        · rw [List.getElem?_append_left hlt] at hk; exact h0 k p hk
        · rw [List.getElem?_append_right (by omega)] at hk
          have : k - D0.length = 0 := by have := (List.getElem?_eq_some_iff.1 hk).1; simp at this; omega
          rw [this] at hk
          simp at hk; subst hk
          have := hR 0 o rfl
          rw [show k = D0.length + 0 by omega]; exact this) (fun j o' hj => by
        have := hR (j + 1) o' (by simpa using hj)
        rw [← this]; congr 1; simp; omega) hrest
      refine ⟨(o, d) :: E, by simpa using e1, by simpa using e2, by simpa using e3, fun k hk hk' => ?_⟩
      rcases Nat.eq_or_lt_of_le hk with he | hlt
      · subst he
        intro p hp
        have hpe : p = (o, d) := by simpa using hp.symm
        subst hpe
        have hpre := slotsS_pre (txt D0.length) 0 D0 ((o, d) :: E) σ.s (fun j hj => by unfold txt; rw [Nat.blt_eq]; omega) (fun j hj => by
          unfold txt
          cases hb : Nat.blt (0 + j) D0.length with
          | false => rfl
          | true => rw [Nat.blt_eq] at hb; omega)
        have hslots : (σS σ (D0 ++ (o, d) :: E) (txt D0.length)).s = (σS σ D0 fun _ => true).s := hpre.1
        have hev : (σS σ (D0 ++ (o, d) :: E) (txt D0.length)).ev = (σS σ D0 fun _ => true).ev := by
          funext y
          cases y <;> simp only [St.ev, hslots]
        have hwant : wantA l (σS σ (D0 ++ (o, d) :: E) (txt D0.length)) o = wantA l (σS σ D0 fun _ => true) o := by
          unfold wantA; rw [hslots]
        have hidd : idD σ.H.length (D0 ++ (o, d) :: E) D0.length = σ.H.length + nNews D0 := by simp [idD]
        simp only
        rw [hwant, hev, hidd]
        exact hd
      · have := e4 k (by simp; omega) hk'
        simpa using this
  obtain ⟨E, e1, e2, e3, e4⟩ := key (l.take m) [] (by simp; omega) (fun k p hk => by simp at hk) (fun j o hj => by
    rw [List.getElem?_take] at hj
    split at hj
    · simpa using hj
    · cases hj) h
  simp only [List.nil_append] at e1 e2 e3 e4
  have hD : DOk l m E := ⟨ok, e1, e2⟩
  intro B μ a w hr
  refine wpIn_region_any hm ?_
  have hno : ∀ j, (Array.replicate l.toArray.size false).getD j false = false := fun j => by
    simp only [Array.getD_eq_getD_getElem?, Array.getElem?_replicate]
    split <;> rfl
  have hS0 : (fun j => (Array.replicate l.toArray.size false).getD j false) = fun _ => false := by funext j; exact hno j
  -- at the start nothing is made: the numbers are set aside
  have hslots0 : ∀ (D : List (Oper × DR)) (k : Nat) (s : List AV), slotsS (fun _ => false) k D s = s := by
    intro D
    induction D with
    | nil => intro k s; rfl
    | cons p D ih => intro k s; simp only [slotsS]; exact ih (k + 1) s
  have hun0 : Un μ σ.H.length E (fun _ => false) := fun k p ob hk hN _ => by
    cases hm : μ (idD σ.H.length E k) with
    | none => rfl
    | some l => have := hr.H.dom _ l hm; unfold idD at this; omega
  have hdead : ∀ (i : Nat) o, (newsS (fun _ => false) 0 E)[i]? = some o → o.st = 2 := fun i o hi => by
    obtain ⟨j, p, ob, _, _, _, h4⟩ := newsS_all _ 0 E i o hi
    rw [h4]
  have hr0 : SRel B μ (σS σ E fun _ => false) a w.drew := by
    have hoo : ∀ b, OO B.X (σ.H ++ newsS (fun _ => false) 0 E) μ b → OO B.X σ.H μ b := by
      rintro b (hx | ⟨i, o, m', hi, hs, hm'⟩)
      · exact .inl hx
      · by_cases hlt : i < σ.H.length
        · rw [List.getElem?_append_left hlt] at hi; exact .inr ⟨i, o, m', hi, hs, hm'⟩
        · rw [List.getElem?_append_right (by omega)] at hi
          have := hdead _ o hi; omega
    have up : ∀ {ν : Mu} {x : AV} {v : Value}, RV (OO B.X σ.H μ) w ν x v → RV (OO B.X (σ.H ++ newsS (fun _ => false) 0 E) μ) w.drew ν x v := fun {ν x v} hx => RV.mono (w := w) (w' := w.drew) (fun b _ hb => hoo b hb) (fun _ _ _ => rfl) hx ν fun _ _ h => h
    refine ⟨by simp only [σS, hslots0]; exact hr.size, fun t x v hx hv => ?_, ⟨fun i l hi => by simp only [σS, List.length_append]; have := hr.H.dom i l hi; omega, hr.H.inj, hr.H.lt, fun i o hi hs => ?_, hr.H.xlt, hr.H.gl.step (Nat.le_refl _) (fun _ _ _ _ => rfl) (fun _ h => .inl h) fun i b m h => .inl ⟨i, m, h⟩⟩, hr.df.step (Chg.drew _ _) (Ext.refl _ _) hr.H.lt, hr.chg.trans hr.ext (Chg.drew _ _), hr.ext, hr.nb, by simp only [σS, List.length_append]; have := hr.le; omega, fun k x v hk hx => up (hr.pres k x v hk hx)⟩
    · simp only [σS, hslots0] at hx
      exact up (hr.slot t x v hx hv)
    · simp only [σS] at hi
      by_cases hlt : i < σ.H.length
      · rw [List.getElem?_append_left hlt] at hi
        exact ObjAt.mono (w := w) (w' := w.drew) (fun b _ hb => hoo b hb) (fun _ _ _ => rfl) (fun _ _ h => h) (fun _ _ _ => rfl) (hr.H.obj i o hi hs)
      · rw [List.getElem?_append_right (by omega)] at hi
        have := hdead _ o hi; omega
  refine draw_any (okD_s hok) hD hnd (fun k hk => e4 k (by simp) hk) e3 l.toArray.size _ a w.drew μ (by simp) (fun i hi => by rw [hno] at hi; cases hi) (fun j _ => hno j) ?_ (by rw [hS0]; exact hr0) (by rw [hS0]; exact hun0)
  have hfil : (List.range m).filter (fun j => !(Array.replicate l.toArray.size false).getD j true) = List.range m := by
    rw [List.filter_eq_self]
    intro j hj
    have := List.mem_range.1 hj
    simp [Array.getD_eq_getD_getElem?, Array.getElem?_replicate, show j < l.length by omega]
  rw [hfil, List.length_range]
  simp; omega
end
end Go.Proofs.YthdckgcalooipaaDoor
namespace Go.Proofs.YthdckgcalooipaaDoor
section
open Go.RowKit
set_option linter.unusedVariables false
set_option linter.unusedSimpArgs false
set_option linter.unusedSectionVars false
variable {P : Program} {tab : Tab} {X : Nat → Prop} {H H' : List AObj} {μ μ' : Mu} {w w' : World} {O O' : Nat → Prop}
theorem map_congr' {α β : Type} {f g : α → β} : ∀ {l : List α}, (∀ x ∈ l, f x = g x) → l.map f = l.map g
  | [], _ => rfl
  | a :: l, h => by simp only [List.map_cons]; rw [h a (by simp), map_congr' fun x hx => h x (by simp [hx])]
theorem aPure_congr {ev ev' : Operand → AV} (op : Op) (h : ∀ y ∈ op.operands, ev y = ev' y) : aPure tab H ev op = aPure tab H ev' op := by
  cases op
  case call c =>
    obtain ⟨callee, ⟨args⟩, ⟨ts⟩⟩ := c
    cases callee with
    | value f => rfl
    | invoke r m => rfl
    | builtin b =>
      have hx : ∀ x ∈ args, ev x = ev' x := fun x hx => h x (by simp [Op.operands, Call.operands, hx])
      cases b <;> first
        | rfl
        | (rcases args with _ | ⟨x, _ | ⟨y, _ | ⟨z, args⟩⟩⟩ <;> rcases ts with _ | ⟨t, _ | ⟨t', ts⟩⟩ <;> first
            | rfl
            | (simp only [List.mem_cons, List.not_mem_nil, or_false, forall_eq_or_imp, forall_eq] at hx; simp only [aPure, hx]; done))
  case slice t x lo hi mx =>
    have h1 : ev x = ev' x := h x (by simp [Op.operands])
    have h2 : lo.map ev = lo.map ev' := by cases lo; rfl; simp only [Option.map_some]; rw [h _ (by simp [Op.operands])]
    have h3 : hi.map ev = hi.map ev' := by cases hi; rfl; simp only [Option.map_some]; rw [h _ (by simp [Op.operands])]
    have h4 : mx.map ev = mx.map ev' := by cases mx; rfl; simp only [Option.map_some]; rw [h _ (by simp [Op.operands])]
    simp only [aPure, h1, h2, h3, h4]
  case build t ps =>
    have : ps.toList.map (fun p => (p.1, ev p.2)) = ps.toList.map (fun p => (p.1, ev' p.2)) := map_congr' fun p hp => by rw [h p.2 (by simp [Op.operands]; exact ⟨_, Array.mem_toList_iff.1 hp⟩)]
    simp only [aPure, this]
  case makeFunc fn a b =>
    have h1 : a.toList.map ev = a.toList.map ev' := map_congr' fun y hy => h y (by simp [Op.operands]; exact .inl (Array.mem_toList_iff.1 hy))
    have h2 : b.toList.map ev = b.toList.map ev' := map_congr' fun y hy => h y (by simp [Op.operands]; exact .inr (Array.mem_toList_iff.1 hy))
    simp only [aPure, h1, h2]
  all_goals first
    | rfl
    | (simp only [Op.operands, List.mem_toArray, List.mem_cons, List.not_mem_nil, or_false, forall_eq_or_imp, forall_eq] at h; simp only [aPure, h]; done)
theorem aLoad_mono (hle : ∀ (i : Nat) ob, H[i]? = some ob → H'[i]? = some ob) {t : TypeId} {p : AV} {r : Prop × AV} (h : aLoad tab t p H = some r) : aLoad tab t p H' = some r := by
  unfold aLoad at h ⊢
  cases ht : tab t with
  | none => rw [ht] at h; cases h
  | some i =>
    rw [ht] at h
    simp only at h ⊢
    cases p <;> simp only at h ⊢ <;> try exact h
    rename_i id sz k o
    cases hn : nth H id with
    | none => rw [hn] at h; cases h
    | some ob =>
      rw [hn] at h
      rw [nth_eq] at hn
      rw [nth_eq, hle _ _ hn]
      exact h
theorem aSlice_mono (hle : ∀ (i : Nat) ob, H[i]? = some ob → H'[i]? = some ob) {t : TypeId} {x : AV} {lo hi mx : Option AV} {r : Prop × AV} (h : aSlice tab H t x lo hi mx = some r) : aSlice tab H' t x lo hi mx = some r := by
  cases x
  case ptr id sz k o =>
    unfold aSlice at h ⊢
    cases h1 : tab t <;> cases h2 : aBound lo <;> cases h3 : aBound hi <;> cases h4 : aBound mx <;> simp only [h1, h2, h3, h4] at h ⊢ <;> first | (cases h; done) | skip
    rename_i i _ _ _
    cases hk : i.k <;> (try simp only [hk] at h) <;> (try simp only [hk]) <;> first | (cases h; done) | skip
    cases hn : nth H id with
    | none => rw [hn] at h; split at h <;> first | (cases h; done) | (rename_i he; cases he)
    | some ob =>
      rw [hn] at h
      rw [nth_eq] at hn
      rw [nth_eq, hle _ _ hn]
      exact h
  all_goals
    rw [← h]
    unfold aSlice
    cases h1 : tab t <;> cases h2 : aBound lo <;> cases h3 : aBound hi <;> cases h4 : aBound mx <;> simp only [h1, h2, h3, h4]
    rename_i i _ _ _
    cases hk : i.k <;> first
      | rfl
      | (rename_i x _ _ _ _; rcases x <;> first
          | rfl
          | (rename_i A n c; rcases A with _ | A <;> rcases n with _ | n <;> rcases c with _ | c <;> rfl))
      | (rename_i x _ _ _ _ _; rcases x <;> first
          | rfl
          | (rename_i A n c; rcases A with _ | A <;> rcases n with _ | n <;> rcases c with _ | c <;> rfl))
      | (rename_i x _ _ _; rcases x <;> first
          | rfl
          | (rename_i A n c; rcases A with _ | A <;> rcases n with _ | n <;> rcases c with _ | c <;> rfl))
theorem aPure_mono (hle : ∀ (i : Nat) ob, H[i]? = some ob → H'[i]? = some ob) {ev : Operand → AV} {op : Op} {r : Prop × AV} (h : aPure tab H ev op = some r) : aPure tab H' ev op = some r := by
  cases op
  case load t x => exact aLoad_mono hle h
  case slice t x lo hi mx => exact aSlice_mono hle h
  case call c =>
    rw [← h]
    obtain ⟨callee, ⟨args⟩, ⟨ts⟩⟩ := c
    cases callee with
    | value f => rfl
    | invoke r m => rfl
    | builtin b =>
      cases b <;> first
        | rfl
        | (rcases args with _ | ⟨x, _ | ⟨y, _ | ⟨z, args⟩⟩⟩ <;> rcases ts with _ | ⟨t, _ | ⟨t', ts⟩⟩ <;> rfl)
  all_goals exact h
open Classical in
/-- What is read alone. -/
noncomputable def only (op : Op) (ev : Operand → AV) : Operand → AV := fun y => if y ∈ op.operands then ev y else .junk
theorem only_eq {op : Op} {ev : Operand → AV} : ∀ y ∈ op.operands, ev y = only op ev y := fun y hy => by unfold only; rw [if_pos hy]
theorem only_rv {op : Op} {ev : Operand → AV} {ρ : Operand → Value} (h : ∀ y ∈ op.operands, RV O w μ (ev y) (ρ y)) (y : Operand) : RV O w μ (only op ev y) (ρ y) := by
  unfold only
  split
  · exact h y ‹_›
  · exact .junk _
theorem dstep_pure (hT : TabOk P tab) {ev : Operand → AV} {H0 : List AObj} {id : Nat} {o : Oper} {q : Prop} {x : AV} (h : aPure tab H0 ev o.op = some (q, x)) (hq : q) : DStep P ev H0 id o ⟨x, none⟩ := by
  intro w X μ H ρ hH hle hr
  obtain ⟨u, h1, h2⟩ := pure_sound hT ((aPure_congr o.op only_eq).symm.trans (aPure_mono hle h)) hq hH (only_rv hr)
  unfold StepOk
  rw [h1]
  exact ⟨Below.refl _ _, h2⟩
theorem partsCells_congr {ev ev' : Operand → AV} {sz : Nat} : ∀ {l : List (Nat × Operand)} {k : Nat}, (∀ p ∈ l, ev p.2 = ev' p.2) → partsCells ev sz k l = partsCells ev' sz k l
  | [], k, h => rfl
  | (i, x) :: l, k, h => by simp only [partsCells]; rw [h (i, x) (by simp), partsCells_congr fun p hp => h p (by simp [hp])]
theorem aNew_congr {ev ev' : Operand → AV} {id : Nat} (op : Op) (h : ∀ y ∈ op.operands, ev y = ev' y) : aNew tab ev id op = aNew tab ev' id op := by
  cases op
  case buildSlice t len ps =>
    simp only [aNew, aBuildSlice]
    have : ∀ sz, partsCells ev sz 0 ps.toList = partsCells ev' sz 0 ps.toList := fun sz => partsCells_congr fun p hp => h p.2 (by simp [Op.operands]; exact ⟨_, Array.mem_toList_iff.1 hp⟩)
    simp only [this]
  all_goals first
    | rfl
    | (simp only [Op.operands, List.mem_toArray, List.mem_cons, List.not_mem_nil, or_false, forall_eq_or_imp, forall_eq] at h; simp only [aNew, h]; done)
theorem dstep_new (hT : TabOk P tab) {ev : Operand → AV} {H0 : List AObj} {id : Nat} {o : Oper} {q : Prop} {x : AV} {ob : AObj} (h : aNew tab ev id o.op = some (q, x, ob)) (hq : q) : DStep P ev H0 id o ⟨x, some ob⟩ := by
  intro w X μ H ρ hH hle hr
  have hn := new_ok (μ := μ) hT (only_rv hr) ((aNew_congr o.op only_eq).symm.trans h) hq
  obtain ⟨u, cur, h1, h2, h3, h4, h5⟩ := hn.run
  unfold StepOk
  rw [h1]
  have hal : Below w.heap.size w (w.alloc (.cells cur ob.T)) := Below.alloc (Below.refl _ _) (Nat.le_refl _) _
  refine ⟨hal, w.heap.size, ob.n, cur, Nat.le_refl _, by simp, hn.sz, hn.st, ⟨heap_alloc_new w _, h2, hn.le, Nat.le_refl _, h3, hn.flen, fun k j a v hk ha hv => ?_⟩, fun O' μ' _ _ hm => h5 O' _ μ' hm⟩
  refine (h4 k j a v hk ha hv).mono (fun b hb hb' => ?_) (fun b hb _ => hal.block b hb) _ (fun _ _ h => h)
  rcases hb' with h | h
  · exact h
  · omega
theorem stepOk_call {ρ : Operand → Value} {o : Oper} {fo : Operand} {ao : List Operand} {ts : Array TypeId} (ho : o.op = .call { callee := .value fo, args := ao.toArray, argTypes := ts }) {f : FuncId} {vs us : List Value} (hf : ρ fo = .func (.func f) vs.toArray us.toArray)
    {fn : Func} {c : Code} (hfn : P.funcs[f]? = some fn) (hnm : (fn.name == "runtime.NumGoroutine") = false) (hb : fn.body = some c) {R : Value → World → Prop}
    (h : Calls P f (vs ++ ao.map ρ ++ us).toArray w fun e w' => ∃ v, e = .returned v ∧ R v w') : StepOk P (execOp ρ o) w R := by
  have hrun : (execOp ρ o).run P w = .ok (.enter f (vs ++ ao.map ρ ++ us).toArray) w := by
    unfold execOp
    rw [ho]
    simp only [resolve, hf, Deferred.ofValue, Sem.run_bind, Sem.run_pure, Result.andThen_ok, invoke, run_enter hfn hnm hb]
    simp
  unfold StepOk
  rw [hrun]
  exact h.mono fun e w' ⟨v, he, hr⟩ => by subst he; exact hr
/-- A call of a function that keeps to itself, in a drawn region: what it is given names nothing of one's own. -/
theorem dcall {ev : Operand → AV} {ρ : Operand → Value} {o : Oper} {fo : Operand} {ao : List Operand} {ts : Array TypeId} (ho : o.op = .call { callee := .value fo, args := ao.toArray, argTypes := ts }) {f : FuncId} {fa ca : List AV} (hf : ev fo = .fn (.func f) fa ca)
    {fn : Func} {c : Code} (hfn : P.funcs[f]? = some fn) (hnm : (fn.name == "runtime.NumGoroutine") = false) (hb : fn.body = some c) (hid : (fa ++ ao.map ev ++ ca).all (idfree 4) = true) {x : AV} {N : List AObj} (h : APure P f (fa ++ ao.map ev ++ ca) x N)
    (hX : ∀ b, O b → b < w.heap.size) (hgl : GlobOk O noMu w) (hr : ∀ y ∈ o.op.operands, RV O w μ (ev y) (ρ y)) {R : Value → World → Prop} (hR : ∀ v w' μ', HRel μ' O N w' → RV (OO O N μ') w' μ' x v → Below w.heap.size w w' → (∀ i b m, μ' i = some (some (b, m)) → w.heap.size ≤ b) → R v w') : StepOk P (execOp ρ o) w R := by
  have hfv := hr fo (by rw [ho]; simp [Op.operands, Call.operands])
  rw [hf] at hfv
  generalize hg : ρ fo = fv at hfv
  cases hfv with
  | fn h1 h2 h3 h4 =>
    rename_i vs us
    have hargs : RVs O w μ (ao.map ev) (ao.map ρ) := ⟨by simp, fun j x v hx hv => by
      simp only [List.getElem?_map, Option.map_eq_some_iff] at hx hv
      obtain ⟨p, hp, rfl⟩ := hx
      obtain ⟨p', hp', rfl⟩ := hv
      rw [hp] at hp'; injection hp' with hp'; subst hp'
      exact hr p (by rw [ho]; simp only [Op.operands, Call.operands]; exact Array.mem_append.2 (.inr (by simpa using List.mem_of_getElem? hp)))⟩
    have hall := ((show RVs O w μ fa vs from ⟨h1, h2⟩).append hargs).append (show RVs O w μ ca us from ⟨h3, h4⟩)
    have hall0 : RVs (OO O [] noMu) w noMu (fa ++ ao.map ev ++ ca) (vs ++ ao.map ρ ++ us) := ⟨hall.1, fun j a v ha hv => (idfree_rv 4 (List.all_eq_true.1 hid a (List.mem_of_getElem? ha)) (hall.2 j a v ha hv)).mono (fun b _ hb => hb.elim id fun ⟨i, o, m, hi, _⟩ => (by simp at hi)) (fun _ _ _ => rfl) _ fun _ _ h => h⟩
    refine stepOk_call ho hg hfn hnm hb ((h w O noMu _ ⟨fun i l h => (by cases h), fun i j b m m' h => (by cases h), fun i b m h => (by cases h), fun i o h => (by simp at h), hX, hgl⟩ hall0).mono fun e w' he => ?_)
    obtain ⟨v, r', H1, fg1, μ1, rfl, ⟨rfl, rfl⟩, g1, g2, g3, g4, _, _⟩ := he
    exact ⟨v, rfl, hR v w' μ1 g1 g2 g3.below fun i b m hi => by
      rcases g4 i b m hi with ⟨j, m', hj⟩ | h
      · cases hj
      · exact h⟩
/-- Its answer is data. -/
theorem dstep_data {ev : Operand → AV} {H0 : List AObj} {id : Nat} {o : Oper} {fo : Operand} {ao : List Operand} {ts : Array TypeId} (ho : o.op = .call { callee := .value fo, args := ao.toArray, argTypes := ts }) {f : FuncId} {fa ca : List AV} (hf : ev fo = .fn (.func f) fa ca)
    {fn : Func} {c : Code} (hfn : P.funcs[f]? = some fn) (hnm : (fn.name == "runtime.NumGoroutine") = false) (hb : fn.body = some c) (hid : (fa ++ ao.map ev ++ ca).all (idfree 4) = true) {x y : AV} {N : List AObj} {q : Prop} {used : List Nat} (h : APure P f (fa ++ ao.map ev ++ ca) x N)
    (ht : thaw N 4 x = some (q, y, used)) (hq : q) : DStep P ev H0 id o ⟨y, none⟩ := by
  intro w X μ H ρ hH hle hr
  refine dcall ho hf hfn hnm hb hid h (fun b hb => ?_) hH.glO hr fun v w' μ1 g1 g2 g3 g4 => ⟨g3, ?_⟩
  · rcases hb with h | ⟨i, o, m, hi, hs, hm⟩
    · exact hH.xlt b h
    · exact (hH.lt i b m hm).1
  · refine (thaw_rv g1 4 ht hq g2).mono (fun b _ hb => ⟨.inl hb, fun i _ m hm => (g1.lt i b m hm).2 hb⟩) (fun _ _ _ => rfl) _ fun _ _ h => by cases h
theorem row_inv {i id sz off n b m : Nat} {cap : Option Nat} {v : Value} (h : RV O w μ (.row i sz off n cap) v) (hm : μ i = some (some (b, m))) (hm' : μ' id = some (some (b, m))) : RV O' w' μ' (.row id sz off n cap) v := by
  cases h with
  | rowNil h hc => rw [hm] at h; cases h
  | row h e1 e2 e3 e4 =>
    rw [hm] at h; injection h with h; injection h with h; injection h with k1 k2; subst k1 k2
    exact .row hm' e1 e2 e3 e4
  | rowE h e1 e2 =>
    rw [hm] at h; injection h with h; injection h with h; injection h with k1 k2; subst k1 k2
    exact .rowE hm' e1 e2
/-- Its answer is a row that it made. -/
theorem dstep_row {ev : Operand → AV} {H0 : List AObj} {id : Nat} {o : Oper} {fo : Operand} {ao : List Operand} {ts : Array TypeId} (ho : o.op = .call { callee := .value fo, args := ao.toArray, argTypes := ts }) {f : FuncId} {fa ca : List AV} (hf : ev fo = .fn (.func f) fa ca)
    {fn : Func} {c : Code} (hfn : P.funcs[f]? = some fn) (hnm : (fn.name == "runtime.NumGoroutine") = false) (hb : fn.body = some c) (hid : (fa ++ ao.map ev ++ ca).all (idfree 4) = true) {sz off n : Nat} {cap : Option Nat} {ob : AObj} (h : APure P f (fa ++ ao.map ev ++ ca) (.row 0 sz off n cap) [ob])
    (hst : ob.st = 0) (hp : ob.pure = true) (hn : 0 < ob.n) : DStep P ev H0 id o ⟨.row id sz off n cap, some ob⟩ := by
  intro w X μ H ρ hH hle hr
  refine dcall ho hf hfn hnm hb hid h (fun b hb => ?_) hH.glO hr fun v w' μ1 g1 g2 g3 g4 => ⟨g3, ?_⟩
  · rcases hb with h | ⟨i, o, m, hi, hs, hm⟩
    · exact hH.xlt b h
    · exact (hH.lt i b m hm).1
  · obtain ⟨hz, ⟨_, h0⟩ | ⟨b, m, cur, hm, hin⟩⟩ := g1.obj 0 ob rfl (by omega)
    · omega
    · refine ⟨b, m, cur, g4 0 b m hm, (g1.lt 0 b m hm).1, hz, hst, ⟨hin.blk, hin.size, hin.le, hin.nle, hin.one, hin.flen, fun k j a v hk ha hv => ?_⟩, fun O' μ' _ _ hm' => ?_⟩
      · have := hin.cell k j a v hk ha hv
        refine this.mono (fun b' _ hb' => ?_) (fun _ _ _ => rfl) _ ?_
        · rcases hb' with h | h
          · exact .inl h
          · subst h; exact .inr ⟨0, ob, m, rfl, hst, hm⟩
        · rw [hp]; exact fun _ _ h => h
      · exact row_inv g2 hm hm'
end
end Go.Proofs.YthdckgcalooipaaDoor
namespace Go.Proofs.YthdckgcalooipaaDoor
section
open Go.RowKit
set_option linter.unusedVariables false
set_option linter.unusedSimpArgs false
set_option linter.unusedSectionVars false
variable {P : Program} {tab : Tab} {r : Option Nat} {l R : List Oper} {Q : Exit → St → Prop} {σ σ' : St} {o : Oper} {m : Nat}
theorem slotsS_append (S : Nat → Bool) : ∀ (D E : List (Oper × DR)) (k : Nat) (s : List AV), slotsS S k (D ++ E) s = slotsS S (k + D.length) E (slotsS S k D s)
  | [], E, k, s => rfl
  | p :: D, E, k, s => by
    simp only [List.cons_append, slotsS, List.length_cons]
    rw [slotsS_append S D E (k + 1)]
    congr 1; omega
theorem newsS_append (S : Nat → Bool) : ∀ (D E : List (Oper × DR)) (k : Nat), newsS S k (D ++ E) = newsS S k D ++ newsS S (k + D.length) E
  | [], E, k => rfl
  | p :: D, E, k => by
    simp only [List.cons_append, newsS, List.length_cons, List.append_assoc]
    rw [newsS_append S D E (k + 1), show k + 1 + D.length = k + (D.length + 1) by omega]
def St.got (σ : St) (t : Option Tmp) (d : DR) : St := ⟨setD σ.s t d.x, σ.H ++ d.news true, σ.fg, σ.nb⟩
theorem σS_snoc (D : List (Oper × DR)) (o : Oper) (d : DR) : σS σ (D ++ [(o, d)]) (fun _ => true) = (σS σ D fun _ => true).got o.dst d := by
  simp only [σS, slotsS_append, newsS_append, St.got, slotsS, newsS, List.append_nil, List.append_assoc]
/-- The rest of the first operations, from the state that the ones ahead have made. -/
def ADr (P : Program) (r : Option Nat) (l : List Oper) (Q : Exit → St → Prop) (m : Nat) (σ0 : St) (R : List Oper) (σ' : St) : Prop :=
  ∀ D, σS σ0 D (fun _ => true) = σ' → AD P l σ0 (fun D => AL P r l Q (l.drop m) (σS σ0 D fun _ => true)) R D
theorem aw_drawr (hm : P.follows .mixedOrders = true) {id : Nat} (m : Nat) (hok : okD l m = true) (hnd : l.all nDefer = true) (h : ADr P r l Q m σ (l.take m) σ) : AW P r (.region id l.toArray true) Q σ :=
  aw_draw hm m hok hnd (h [] (by simp [σS, slotsS, newsS]))
theorem ad_end (h : AL P r l Q (l.drop m) σ') : ADr P r l Q m σ [] σ' := fun D hD => by
  simp only [AD]; rw [hD]; exact h
theorem ad_step {d : DR} (hd : wantA l σ' o = some true) (h : DStep P σ'.ev σ.H σ'.H.length o d) (next : ADr P r l Q m σ R (σ'.got o.dst d)) : ADr P r l Q m σ (o :: R) σ' := fun D hD => by
  have hl : σ'.H.length = σ.H.length + nNews D := by rw [← hD]; simp [σS, newsS_len]
  exact ⟨d, .inl ⟨by rw [hD]; exact hd, by rw [hD, ← hl]; exact h⟩, next _ (by rw [σS_snoc, hD])⟩
theorem ad_skip (hd : wantA l σ' o = some false) (next : ADr P r l Q m σ R (σ'.put o.dst (.lit undef))) : ADr P r l Q m σ (o :: R) σ' := fun D hD => by
  refine ⟨⟨.lit undef, none⟩, .inr ⟨by rw [hD]; exact hd, rfl⟩, next _ ?_⟩
  rw [σS_snoc, hD]
  cases hd' : o.dst <;> simp [St.got, St.put, DR.news, setD]
theorem got_plain {t : Option Tmp} {x : AV} : σ'.got t ⟨x, none⟩ = σ'.put t x := by cases t <;> simp [St.got, St.put, DR.news, setD]
theorem got_new {t : Option Tmp} {x : AV} {ob : AObj} : σ'.got t ⟨x, some ob⟩ = St.put ⟨σ'.s, σ'.H ++ [ob], σ'.fg, σ'.nb⟩ t x := by cases t <;> simp [St.got, St.put, DR.news, setD]
theorem ad_pure (hT : TabOk P tab) (hw : wantA l σ' o = some true) {q : Prop} {x : AV} (h : aPure tab σ.H σ'.ev o.op = some (q, x)) (hq : q) (next : ADr P r l Q m σ R (σ'.put o.dst x)) : ADr P r l Q m σ (o :: R) σ' :=
  ad_step hw (dstep_pure hT h hq) (by rw [got_plain]; exact next)
theorem ad_new (hT : TabOk P tab) (hw : wantA l σ' o = some true) {q : Prop} {x : AV} {ob : AObj} (h : aNew tab σ'.ev σ'.H.length o.op = some (q, x, ob)) (hq : q) (next : ADr P r l Q m σ R (St.put ⟨σ'.s, σ'.H ++ [ob], σ'.fg, σ'.nb⟩ o.dst x)) : ADr P r l Q m σ (o :: R) σ' :=
  ad_step hw (dstep_new hT h hq) (by rw [got_new]; exact next)
/-- A call in the drawn part, whose answer is data. -/
theorem ad_call (hw : wantA l σ' o = some true) {fo : Operand} {ao : List Operand} {ts : Array TypeId} (ho : o.op = .call { callee := .value fo, args := ao.toArray, argTypes := ts }) {f : FuncId} {fa ca : List AV} (hf : σ'.ev fo = .fn (.func f) fa ca) (hg : GoFn P f)
    (hid : (fa ++ ao.map σ'.ev ++ ca).all (idfree 4) = true) {x y : AV} {N : List AObj} {q : Prop} {used : List Nat} (h : APure P f (fa ++ ao.map σ'.ev ++ ca) x N) (ht : thaw N 4 x = some (q, y, used)) (hq : q) (next : ADr P r l Q m σ R (σ'.put o.dst y)) : ADr P r l Q m σ (o :: R) σ' := by
  obtain ⟨fn, c, h1, h2, h3⟩ := hg
  exact ad_step hw (dstep_data ho hf h1 h2 h3 hid h ht hq) (by rw [got_plain]; exact next)
/-- A call in the drawn part, whose answer is a row that it made. -/
theorem ad_row (hw : wantA l σ' o = some true) {fo : Operand} {ao : List Operand} {ts : Array TypeId} (ho : o.op = .call { callee := .value fo, args := ao.toArray, argTypes := ts }) {f : FuncId} {fa ca : List AV} (hf : σ'.ev fo = .fn (.func f) fa ca) (hg : GoFn P f)
    (hid : (fa ++ ao.map σ'.ev ++ ca).all (idfree 4) = true) {sz off n : Nat} {cap : Option Nat} {ob : AObj} (h : APure P f (fa ++ ao.map σ'.ev ++ ca) (.row 0 sz off n cap) [ob]) (hst : ob.st = 0) (hp : ob.pure = true) (hn : 0 < ob.n)
    (next : ADr P r l Q m σ R (St.put ⟨σ'.s, σ'.H ++ [ob], σ'.fg, σ'.nb⟩ o.dst (.row σ'.H.length sz off n cap))) : ADr P r l Q m σ (o :: R) σ' := by
  obtain ⟨fn, c, h1, h2, h3⟩ := hg
  exact ad_step hw (dstep_row ho hf h1 h2 h3 hid h hst hp hn) (by rw [got_new]; exact next)
theorem ad_cons_ (h : ADr P r l Q m σ (o :: R) σ') : ADr P r l Q m σ (o :: R) σ' := h
end
end Go.Proofs.YthdckgcalooipaaDoor
namespace Go.Proofs.YthdckgcalooipaaDoor
section
open Go.RowKit
set_option linter.unusedVariables false
set_option linter.unusedSimpArgs false
set_option linter.unusedSectionVars false
variable {P : Program} {tab : Tab} {X : Nat → Prop} {H H' : List AObj} {μ μ' : Mu} {w w' : World} {r : Option Nat} {l R : List Oper} {Q : Exit → St → Prop} {σ : St} {o : Oper}
theorem oper_monoQ {F : Fence} {n : Nat} {o : Oper} {a : Act} {w : World} {K K' : Act → World → Prop} {Q Q' : Exit → Act → World → Prop} (hq : ∀ e a w, Q e a w → Q' e a w) (h : ∀ a w, K a w → K' a w) (hh : o.wpIn F n P a w K Q) : o.wpIn F n P a w K' Q' := by
  unfold Oper.wpIn at *
  refine ⟨hh.1, ?_⟩
  have hh := hh.2
  have hlo : LetsOut Q → LetsOut Q' := fun ⟨a, w, h⟩ => ⟨a, w, hq _ _ _ h⟩
  generalize (o.semAt F.round a.eval).run P w = r at *
  cases r with
  | ok x w' =>
    cases x <;> simp only [Oper.uponIn] at hh ⊢ <;>
      first
        | exact h _ _ hh
        | exact ⟨hh.1, CallsIn.mono hh.2 (fun e w'' he => by cases e <;> first | exact h _ _ he | exact hq _ _ _ he | exact hlo he)⟩
        | exact ⟨hh.1, RowsIn.mono hh.2 (fun _ _ he => h _ _ he)⟩
        | exact ⟨hh.1, RoundIn.mono hh.2 (fun e w'' he => by cases e <;> first | exact h _ _ he | exact hq _ _ _ he | exact hlo he)⟩
  | halt x w' => cases x <;> simp only [Oper.uponIn] at hh ⊢ <;> first | exact hh | exact hq _ _ _ hh
theorem wpListIn_mono {F : Fence} {n : Nat} {ops : Array Oper} {Q Q' : Exit → Act → World → Prop} (hq : ∀ e a w, Q e a w → Q' e a w) : ∀ {R : List Oper} {a : Act} {w : World}, wpListIn F n P ops Q R a w → wpListIn F n P ops Q' R a w
  | [], a, w, h => hq _ _ _ h
  | o :: R, a, w, h => by
    unfold wpListIn at h ⊢
    split
    · rename_i hw; rw [if_pos hw] at h; exact oper_monoQ hq (fun _ _ h => wpListIn_mono hq h) h
    · rename_i hw; rw [if_neg hw] at h; exact ⟨h.1, wpListIn_mono hq h.2⟩
def live (H : List AObj) : Bool := H.all fun o => Nat.beq o.st 0
theorem live_oo (hl : live H = true) (hH : HRel μ X H w) {b : Nat} (h : InMu μ b) : OO X H μ b := by
  obtain ⟨i, m, hi⟩ := h
  have hlt := hH.dom i _ hi
  have := List.all_eq_true.1 hl _ (List.getElem_mem hlt)
  exact .inr ⟨i, _, m, List.getElem?_eq_getElem hlt, beq_t this, hi⟩
theorem al_yield (hw : wantA l σ o = some true) {fo : Operand} {ao : List Operand} {ts : Array TypeId} (ho : o.op = .call { callee := .value fo, args := ao.toArray, argTypes := ts }) {L : Nat} (hf : σ.ev fo = .fn (.yield L) [] [])
    {xs : Nat → List AV} {n : Nat} (hsp : σ.nb.sp = some (L, xs, n)) (hst : σ.nb.stop = false) (hnm : σ.nb.nm = true) (hy : σ.nb.y < n) (hlive : live σ.H = true) (hid : (xs σ.nb.y).all (idfree 4) = true) (hle : LeS (ao.map σ.ev) (xs σ.nb.y))
    (next : ∀ t : Bool, AL P r l Q R (St.put ⟨σ.s, σ.H, σ.fg, ⟨σ.nb.n, σ.nb.y + 1, !t, σ.nb.sp, σ.nb.nm⟩⟩ o.dst (.lit (.bool t)))) : AL P r l Q (o :: R) σ := by
  intro B μ a w hr
  unfold wpListIn
  rw [if_pos (wantA_ok hw hr)]
  refine ⟨fun f _ => fw_fn r f, ?_⟩
  rw [Oper.semAt_eq _ _ _ (fun c hc => by rw [ho] at hc; cases hc)]
  have hfv := hr.ev fo
  rw [hf] at hfv
  generalize hg : a.eval fo = fv at hfv
  cases hfv with
  | fn h1 h2 h3 h4 =>
    rename_i vs us
    obtain rfl : vs = [] := by simpa using h1.symm
    obtain rfl : us = [] := by simpa using h3.symm
    have hds : a.defers = [] := hr.df.nm hnm
    have hargs : RVs (fun b => B.X b ∨ Mine μ a.defers b) w noMu (xs σ.nb.y) (ao.map a.eval) := by
      refine ⟨by rw [← hle.len]; simp, fun j x v hx hv => ?_⟩
      have hlt : j < (ao.map σ.ev).length := by rw [hle.len]; exact (List.getElem?_eq_some_iff.1 hx).1
      obtain ⟨y, hy1, hy2⟩ := hle.at_ hx
      simp only [List.getElem?_map, Option.map_eq_some_iff] at hy1 hv
      obtain ⟨p, hp, rfl⟩ := hy1
      obtain ⟨p', hp', rfl⟩ := hv
      rw [hp] at hp'; injection hp' with hp'; subst hp'
      refine (idfree_rv 4 (List.all_eq_true.1 hid x (List.mem_of_getElem? hx)) (hy2 _ _ _ _ (hr.ev p))).mono (fun b _ hb => ?_) (fun _ _ _ => rfl) _ fun _ _ h => h
      rcases hb with hb | hb | hb
      · exact .inl hb
      · exact live_oo hlive hr.H hb
      · rw [hds] at hb; cases hb
    have hspB : B.sp = some (L, xs, n) := by rw [← hr.df.sp]; exact hsp
    have hjr := hr.df.jr
    rw [hst] at hjr
    obtain ⟨fn, tmps, assign, body, hy1, hround⟩ := hr.df.ok.yl L xs n hspB _ _ _ w (ao.map a.eval) hjr hy hargs r
    have hrun : (execOp a.eval o).run P w = .ok (.round L fn tmps assign body) w := by
      rw [← hy1]
      unfold execOp
      rw [ho]
      simp [resolve, hg, Deferred.ofValue, invoke]
    rw [hrun]
    refine ⟨fun hd => by simp [fw, Fence.wide] at hd, hround.mono fun e w' ⟨t, X', he, hj, hX1, hX2, hs⟩ => ?_⟩
    subst he
    have hg : Grows B X' := ⟨hX1, fun b hb => (hX2 b hb).1.imp id fun h => Nat.le_trans hr.chg.size h⟩
    have hoo : ∀ b, b < w.heap.size → OO X' σ.H μ b → OO B.X σ.H μ b := fun b hb h => h.imp (fun h => (hX2 b h).1.elim id fun h => by omega) id
    have hnx : ∀ b, b < w.heap.size → ¬ OO B.X σ.H μ b → w'.heap[b]? = w.heap[b]? := fun b hb hn => hs.block b hb fun h => hn (.inl h)
    have hlt : ∀ i b m, μ i = some (some (b, m)) → b < w'.heap.size ∧ ¬ X' b := fun i b m hi => ⟨Nat.lt_of_lt_of_le (hr.H.lt i b m hi).1 hs.size, fun h => (hX2 b h).1.elim (hr.H.lt i b m hi).2 fun h => by have := (hr.H.lt i b m hi).1; omega⟩
    have hsr : SRel (B.at_ X') μ ⟨σ.s, σ.H, σ.fg, ⟨σ.nb.n, σ.nb.y + 1, !t, σ.nb.sp, σ.nb.nm⟩⟩ a w' := by
      refine ⟨hr.size, fun k x v hx hv => (hr.slot k x v hx hv).mono hoo hnx _ fun _ _ h => h, ⟨hr.H.dom, hr.H.inj, hlt, fun i o hi hs' => (hr.H.obj i o hi hs').mono hoo hnx (fun _ _ h => h) fun b m hb => hs.block b (hr.H.lt i b m hb).1 (hr.H.lt i b m hb).2, fun b hb => (hX2 b hb).2, hr.H.gl.step hs.size (fun b hb hn _ => hs.block b hb hn) (fun b hb => (hX2 b hb).1.imp id .inr) fun i b m hi => .inl ⟨i, m, hi⟩⟩,
        ⟨hr.df.sp, ⟨hr.df.ok.keep, hr.df.ok.yl⟩, hj, fun d hd => (by rw [hds] at hd; cases hd), hr.df.apart, hr.df.nm, fun hne k hk hlt => hr.df.xy hne k ((hX2 k hk).1.elim id fun h => by have h1 := hr.chg.size; have h2 : k < B.w.heap.size := hlt; omega) hlt, hr.df.triv, fun D o ho => (let ⟨e1, e2, e3, e4⟩ := hr.df.kp D o ho; ⟨(hs.block D (Array.getElem?_eq_some_iff.1 e1).1 e3).trans e1, e2, fun hx => (hX2 D hx).1.elim e3 fun h => by have := (Array.getElem?_eq_some_iff.1 e1).1; omega, e4⟩)⟩,
        ⟨hs.os.trans hr.chg.os, hs.tape.trans hr.chg.tape, hs.output.trans hr.chg.output, Nat.le_trans hr.chg.size hs.size, fun k hk hn hyk => (hs.block k (Nat.lt_of_lt_of_le hk hr.chg.size) fun hx => hyk (hr.df.xy (by rw [hspB]; simp) k hx hk)).trans (hr.chg.block k hk hn hyk)⟩, hr.ext, hr.nb, hr.le,
        fun k x v hk hx => (hr.pres k x v hk (hx.mono (fun b _ hb => hb.imp (hX1 b) id) (fun _ _ _ => rfl) _ fun _ _ h => h)).mono hoo hnx _ fun _ _ h => h⟩
    exact wpListIn_mono (fun _ _ _ h => h.trans hg) (next t (B.at_ X') μ _ w' (hsr.put (.lit _) o.dst))
/-- The iterator gf, with what it has captured: it yields xs 0, xs 1, .., n of them; the first no ends it. -/
def AIter (P : Program) (gf : FuncId) (lb : List AV) (xs : Nat → List AV) (n : Nat) : Prop :=
  ∀ (B : Base P) (L : Nat) (vs : List Value), B.μ = noMu → B.H = [] → B.Y = B.X → B.sp = some (L, xs, n) → B.kp = none → B.Ok → B.J 0 false B.X (fun _ => False) B.w → (∀ b, B.X b → b < B.w.heap.size) → GlobOk B.X noMu B.w → RVs B.X B.w noMu lb vs →
    CallsIn (fw none) 0 P gf (Value.func (.yield L) #[] #[] :: vs).toArray B.w fun e w' => ∃ v y t X', e = .returned v ∧ B.J y t X' (fun _ => False) w' ∧ (t = false → y = n) ∧ Grows B X' ∧ (∀ b, X' b → b < w'.heap.size) ∧ Same B.X B.w w'
theorem slots_rv {O : Nat → Prop} {args : List AV} {vs : List Value} {k k' : Nat} (hargs : RVs O w μ args vs) : ∀ (t : Nat) x v, (args ++ List.replicate k (.lit undef))[t]? = some x → (vs.toArray ++ Array.replicate k' undef)[t]? = some v → RV O w μ x v := by
  intro t x v hx hv
  by_cases hlt : t < args.length
  · rw [List.getElem?_append_left hlt] at hx
    rw [Array.getElem?_append_left (by simpa [← hargs.1] using hlt)] at hv
    exact hargs.2 t x v hx (by simpa using hv)
  · rw [List.getElem?_append_right (by omega)] at hx
    rw [Array.getElem?_append_right (by simp [← hargs.1]; omega)] at hv
    rw [List.getElem?_replicate] at hx
    rw [Array.getElem?_replicate] at hv
    split at hx
    · injection hx with hx; subst hx
      split at hv
      · injection hv with hv; subst hv; exact .lit _
      · cases hv
    · cases hx
def IterP (n : Nat) : Exit → St → Prop
  | .normal, σ | .ret, σ => σ.nb.stop = false → σ.nb.y = n
  | _, _ => False
theorem iter_of (hT : TabOk P tab) {gf : FuncId} {fn : Func} {c : Code} (hf : P.funcs[gf]? = some fn) (hb : fn.body = some c) (hres : fn.results.toList = []) {lb : List AV} {xs : Nat → List AV} {n : Nat}
    (h : ∀ L, AW P none c (IterP n) ⟨.fn (.yield L) [] [] :: lb ++ List.replicate (fn.ntmps - (lb.length + 1)) (.lit undef), [], [], ⟨0, 0, false, some (L, xs, n), true⟩⟩) : AIter P gf lb xs n := by
  intro B L vs hμ hH hY hsp hkp hok hJ hX hgl hv
  refine callsIn_of_wp_marks (F := fw none) (n := 0) hf hb trivial ?_
  have hall : RVs (OO B.X [] noMu) B.w noMu (.fn (.yield L) [] [] :: lb) (Value.func (.yield L) #[] #[] :: vs) := .cons (.fn (vs := []) (us := []) rfl (fun j a v h => by simp at h) rfl (fun j a v h => by simp at h)) ⟨hv.1, fun j a v ha hu => (hv.2 j a v ha hu).mono (fun b _ hb => hb.elim id fun ⟨i, o, m, hi, _⟩ => (by simp at hi)) (fun _ _ _ => rfl) _ fun _ _ h => h⟩
  have hr : SRel B noMu ⟨.fn (.yield L) [] [] :: lb ++ List.replicate (fn.ntmps - (lb.length + 1)) (.lit undef), [], [], ⟨0, 0, false, some (L, xs, n), true⟩⟩ { tmps := (Value.func (.yield L) #[] #[] :: vs).toArray ++ Array.replicate (fn.ntmps - (Value.func (.yield L) #[] #[] :: vs).toArray.size) undef, defers := [] } B.w := by
    refine ⟨by simp [hv.1]; omega, slots_rv hall, ⟨fun i l h => (by cases h), fun i j b m m' h => (by cases h), fun i b m h => (by cases h), fun i o h => (by simp at h), hX, hgl⟩,
      ⟨hsp.symm, hok, hok.keep _ _ _ _ B.w _ _ hJ ⟨rfl, rfl, rfl, Nat.le_refl _, fun _ _ _ => rfl⟩ fun k hk => hk.elim (fun ⟨i, m, h⟩ => (by cases h)) fun h => (by cases h), fun d hd => (by simp at hd), .nil, fun _ => rfl, fun _ k hk _ => (by rw [hY]; exact hk), fun h => (by rw [hsp] at h; cases h), fun D o h => (by rw [hkp] at h; cases h)⟩,
      ⟨rfl, rfl, rfl, Nat.le_refl _, fun _ _ _ _ => rfl⟩, by rw [hμ]; exact Ext.refl _ _, by rw [hH]; rfl, Nat.zero_le _, fun k x v hk hx => ?_⟩
    rw [hH, hμ] at hx; exact hx
  refine wpIn_mono (h L B noMu _ B.w hr) fun e a' w' ⟨σ', h1, μ', X', hg, h2⟩ => ?_
  have fin : (σ'.nb.stop = false → σ'.nb.y = n) → LeavesInM Fence.wide 0 P fn a'.tmps (fun e w' => ∃ v y t X', e = .returned v ∧ B.J y t X' (fun _ => False) w' ∧ (t = false → y = n) ∧ Grows B X' ∧ (∀ b, X' b → b < w'.heap.size) ∧ Same B.X B.w w') a'.defers .returning w' := fun hn => by
    refine leaves_marks a'.defers h2 fun w' h2 => ?_
    obtain ⟨us, g4, g5⟩ := results_run (fn := fn) hT h2 (q := True) (l := []) (by rw [hres]; rfl) trivial
    refine ⟨_, g4, _, σ'.nb.y, σ'.nb.stop, X', rfl, ?_, hn, hg, h2.H.xlt, ⟨h2.chg.os, h2.chg.tape, h2.chg.output, h2.chg.size, fun k hk hx => h2.chg.block k hk (fun i m hi => ?_) (by show ¬ B.Y k; rw [hY]; exact hx)⟩⟩
    · exact h2.df.ok.keep _ _ _ _ w' w' _ h2.df.jr ⟨rfl, rfl, rfl, Nat.le_refl _, fun _ _ _ => rfl⟩ fun k hk => hk.elim
    · have : (B.at_ X').μ = noMu := hμ
      rw [this] at hi; cases hi
  cases e <;> simp only [IterP] at h1 <;> first | exact h1.elim | exact fin h1
end
end Go.Proofs.YthdckgcalooipaaDoor
namespace Go.Proofs.YthdckgcalooipaaDoor
section
open Go.RowKit
set_option linter.unusedVariables false
set_option linter.unusedSimpArgs false
set_option linter.unusedSectionVars false
variable {P : Program} {tab : Tab} {X : Nat → Prop} {H H' : List AObj} {μ μ' : Mu} {w w' : World} {r : Option Nat} {l R : List Oper} {Q : Exit → St → Prop} {σ : St} {o : Oper}
def Base.kept (B : Base P) (k : Option (Nat × Obj)) : Base P := { B with kp := k }
theorem Ex.rekp {B : Base P} {nb : YB} {ds : List Deferred} (h : Ex B μ nb ds w) (k : Option (Nat × Obj)) (hk : ∀ D o, k = some (D, o) → w.heap[D]? = some o ∧ ¬ InMu μ D ∧ ¬ B.X D ∧ D < B.w.heap.size) : Ex (B.kept k) μ nb ds w :=
  ⟨h.sp, ⟨h.ok.keep, h.ok.yl⟩, h.jr, h.marks, h.apart, h.nm, h.xy, h.triv, hk⟩
theorem SRel.rekp {B : Base P} {a : Act} (h : SRel B μ σ a w) (k : Option (Nat × Obj)) (hk : ∀ D o, k = some (D, o) → w.heap[D]? = some o ∧ ¬ InMu μ D ∧ ¬ B.X D ∧ D < B.w.heap.size) : SRel (B.kept k) μ σ a w :=
  ⟨h.size, h.slot, h.H, h.df.rekp k hk, h.chg, h.ext, h.nb, h.le, h.pres⟩
def setPs (s : List AV) : List Tmp → List AV → List AV
  | p :: ps, x :: xs => setPs (setn s p x) ps xs
  | _, _ => s
theorem setPs_len : ∀ (ps : List Tmp) (xs s : List AV), (setPs s ps xs).length = s.length
  | [], _, _ => by simp [setPs]
  | _ :: _, [], _ => by simp [setPs]
  | p :: ps, x :: xs, s => by simp only [setPs]; rw [setPs_len ps xs]; simp [setn_eq]
theorem setPs_rv {O : Nat → Prop} : ∀ (ps : List Tmp) {xs s : List AV} {vs : List Value} {t : Array Value}, RVs O w μ xs vs → (∀ (k : Nat) x v, s[k]? = some x → t[k]? = some v → RV O w μ x v) → s.length = t.size →
    ((ps.zip vs).foldl (fun t p => t.setIfInBounds p.1 p.2) t).size = s.length ∧ ∀ (k : Nat) x v, (setPs s ps xs)[k]? = some x → ((ps.zip vs).foldl (fun t p => t.setIfInBounds p.1 p.2) t)[k]? = some v → RV O w μ x v
  | [], xs, s, vs, t, h, hs, hl => ⟨by simpa using hl.symm, by simpa [setPs] using hs⟩
  | p :: ps, [], s, vs, t, h, hs, hl => by
    obtain rfl := h.unnil
    exact ⟨by simpa using hl.symm, by simpa [setPs] using hs⟩
  | p :: ps, x :: xs, s, vs, t, h, hs, hl => by
    obtain ⟨v, us, rfl, g1, g2⟩ := h.uncons
    simp only [setPs, List.zip_cons_cons, List.foldl_cons]
    have := setPs_rv ps (s := setn s p x) (t := t.setIfInBounds p v) g2 (fun k y u hy hu => by
      simp only [setn_eq] at hy
      rw [Array.getElem?_setIfInBounds] at hu
      by_cases he : p = k
      · subst he
        rw [if_pos rfl] at hu
        split at hu
        · rename_i hlt
          injection hu with hu; subst hu
          rw [List.getElem?_set_self (by rw [hl]; exact hlt)] at hy
          injection hy with hy; subst hy
          exact g1
        · cases hu
      · rw [if_neg he] at hu
        rw [List.getElem?_set_ne he] at hy
        exact hs k y u hy hu) (by simp [setn_eq, hl])
    exact ⟨by rw [this.1]; simp [setn_eq], this.2⟩
/-- Others have changed what is theirs. -/
theorem SRel.foreign {B : Base P} {O O' : Nat → Prop} {a : Act} (h : SRel (B.at_ fun b => B.X b ∨ O b) μ σ a w) (hsp : B.sp = none) (hs : Same O w w') (hO' : ∀ k, O' k → (O k ∨ w.heap.size ≤ k) ∧ ¬ InMu μ k ∧ k < w'.heap.size) (hOw : ∀ b, O b → B.w.heap.size ≤ b) (hw : B.w.heap.size ≤ w.heap.size) :
    SRel (B.at_ fun b => B.X b ∨ O' b) μ σ a w' := by
  have hoo : ∀ b, b < w.heap.size → OO (fun b => B.X b ∨ O' b) σ.H μ b → OO (fun b => B.X b ∨ O b) σ.H μ b := fun b hb hx => hx.imp (fun h => h.imp id fun h => (hO' b h).1.elim id fun h => by omega) id
  have hnx : ∀ b, b < w.heap.size → ¬ OO (fun b => B.X b ∨ O b) σ.H μ b → w'.heap[b]? = w.heap[b]? := fun b hb hn => hs.block b hb fun h => hn (.inl (.inr h))
  have hblk : ∀ {b m i}, μ i = some (some (b, m)) → w'.heap[b]? = w.heap[b]? := fun {b m i} hi => hs.block b (h.H.lt i b m hi).1 fun hx => (h.H.lt i b m hi).2 (.inr hx)
  refine ⟨h.size, fun t x v hx hv => (h.slot t x v hx hv).mono hoo hnx _ fun _ _ h => h, ⟨h.H.dom, h.H.inj, fun i b m hi => ⟨Nat.lt_of_lt_of_le (h.H.lt i b m hi).1 hs.size, fun hx => hx.elim (fun hx => (h.H.lt i b m hi).2 (.inl hx)) fun hx => (hO' b hx).2.1 ⟨i, m, hi⟩⟩, fun i o hi hst => (h.H.obj i o hi hst).mono hoo hnx (fun _ _ h => h) fun b m hb => hblk hb, fun b hx => hx.elim (fun hx => Nat.lt_of_lt_of_le (h.H.xlt b (.inl hx)) hs.size) fun hx => (hO' b hx).2.2, h.H.gl.step hs.size (fun b hb hn _ => hs.block b hb fun hx => hn (.inr hx)) (fun b hb => hb.elim (fun h => .inl (.inl h)) fun h => (hO' b h).1.elim (fun h => .inl (.inr h)) fun h => .inr (.inr h)) fun i b m hi => .inl ⟨i, m, hi⟩⟩,
    ⟨h.df.sp, ⟨h.df.ok.keep, h.df.ok.yl⟩, h.df.triv hsp _ _ _ _ _, fun d hd => ?_, h.df.apart, h.df.nm, fun hne => (hne hsp).elim, h.df.triv, fun D o ho => ?_⟩, ⟨hs.os.trans h.chg.os, hs.tape.trans h.chg.tape, hs.output.trans h.chg.output, Nat.le_trans h.chg.size hs.size, fun k hk hn hy => (hs.block k (Nat.lt_of_lt_of_le hk hw) fun hx => by have := hOw k hx; have h2 : k < B.w.heap.size := hk; omega).trans (h.chg.block k hk hn hy)⟩, h.ext, h.nb, h.le,
    fun k x v hk hx => (h.pres k x v hk (hx.mono (fun b hb hb' => hb'.imp (fun h => h.elim .inl fun h => by have := hOw b h; have h2 : b < B.w.heap.size := hb; omega) id) (fun _ _ _ => rfl) _ fun _ _ h => h)).mono hoo hnx _ fun _ _ h => h⟩
  · obtain ⟨D, e1, e2, e3, e4, e5⟩ := h.df.marks d hd
    have hlt := (Array.getElem?_eq_some_iff.1 e2).1
    exact ⟨D, e1, (hs.block D hlt fun hx => e4 (.inr hx)).trans e2, e3, fun hx => hx.elim (fun hx => e4 (.inl hx)) fun hx => (hO' D hx).1.elim (fun h => e4 (.inr h)) fun h => by omega, e5⟩
  · obtain ⟨e1, e2, e3, e4⟩ := h.df.kp D o ho
    have hlt := (Array.getElem?_eq_some_iff.1 e1).1
    exact ⟨(hs.block D hlt fun hx => e3 (.inr hx)).trans e1, e2, fun hx => hx.elim (fun hx => e3 (.inl hx)) fun hx => (hO' D hx).1.elim (fun h => e3 (.inr h)) fun h => by omega, e4⟩
/-- Behind a round: what the caller's slots read as, and its objects. -/
theorem SRel.after {B : Base P} {s : List AV} {fg : List Nat} {nb : YB} {a : Act} {w3 : World} {μ4 : Mu} {σ4 : St} {a4 : Act} {L : Nat} {k : Option (Nat × Obj)} {X4 : Nat → Prop} (h : SRel B μ ⟨s, H, fg, nb⟩ a w) (hsp : B.sp = none) (hL : B.w.heap.size ≤ L) (hml : ∀ d ∈ a.defers, d.target ≠ .collected L)
    (h4 : SRel (Base.at_ (⟨w, B.X, μ, H, fun b => b = L, none, fun _ _ _ _ _ => True, k⟩ : Base P) X4) μ4 σ4 a4 w3) (hg : Grows (⟨w, B.X, μ, H, fun b => b = L, none, fun _ _ _ _ _ => True, k⟩ : Base P) X4) (hs : LeS (s.map (fgs (fgk H.length σ4.fg))) s) (hfg : (σ4.fg.all fun i => Nat.ble nb.n i) = true) :
    SRel B μ4 ⟨s, σ4.H, fg, nb⟩ a w3 := by
  have hoo : ∀ b, OO B.X σ4.H μ4 b → OO X4 σ4.H μ4 b := fun b hb => hb.imp (hg.le b) id
  have dn : ∀ {ν : Mu} {x : AV} {v : Value}, RV (OO X4 σ4.H μ4) w3 ν x v → RV (OO B.X σ4.H μ4) w3 ν x v := fun {ν x v} hx => hx.mono (fun b _ hb => hoo b hb) (fun _ _ _ => rfl) ν fun _ _ h => h
  have hp : ∀ k x v, k ≤ H.length → RV (OO B.X H μ) w (upto k μ) x v → RV (OO X4 σ4.H μ4) w3 (upto k μ4) (fgs (fgk k σ4.fg) x) v := fun k x v hk hx => h4.pres k x v (by rw [h4.nb]; exact hk) (hx.mono (fun b hb hb' => hb'.imp (fun hx => (hg.new b hx).elim id fun h => by have h2 : w.heap.size ≤ b := h; omega) id) (fun _ _ _ => rfl) _ fun _ _ h => h)
  have hnl : nb.n ≤ H.length := h.le
  have h4le : H.length ≤ σ4.H.length := by have := h4.le; rw [h4.nb] at this; exact this
  have hin : ∀ b, InMu μ4 b → InMu μ b ∨ w.heap.size ≤ b := fun b ⟨i, m, hi⟩ => (h4.ext i b m hi).imp (fun ⟨j, m', hj⟩ => ⟨j, m', hj⟩) id
  have hchg : ∀ k, k < w.heap.size → ¬ InMu μ k → k ≠ L → w3.heap[k]? = w.heap[k]? := fun k hk hn hne => h4.chg.block k hk (fun i m hi => hn ⟨i, m, hi⟩) hne
  refine ⟨h.size, fun t x v hx hv => ?_, ⟨h4.H.dom, h4.H.inj, fun i b m hi => ⟨(h4.H.lt i b m hi).1, fun hx => (h4.H.lt i b m hi).2 (hg.le b hx)⟩, fun i o hi hst => (h4.H.obj i o hi hst).mono (fun b _ hb => hoo b hb) (fun _ _ _ => rfl) (fun _ _ h => h) fun _ _ _ => rfl, fun b hx => h4.H.xlt b (hg.le b hx), h4.H.gl.step (Nat.le_refl _) (fun _ _ _ _ => rfl) (fun b hb => .inl (hg.le b hb)) fun i b m hi => .inl ⟨i, m, hi⟩⟩,
    ⟨h.df.sp, h.df.ok, h.df.triv hsp _ _ _ _ _, fun d hd => ?_, h.df.apart, h.df.nm, fun hne => (hne hsp).elim, h.df.triv, fun D o ho => ?_⟩,
    ⟨h4.chg.os.trans h.chg.os, h4.chg.tape.trans h.chg.tape, h4.chg.output.trans h.chg.output, Nat.le_trans h.chg.size h4.chg.size, fun k hk hn hy => ?_⟩, h.ext.trans h.chg.size h4.ext, h.nb, Nat.le_trans hnl h4le, fun k x v hk hx => ?_⟩
  · have hx0 := h.slot t x v hx hv
    have h1 := hp H.length x v (Nat.le_refl _) (by rw [upto_all h.H.dom]; exact hx0)
    obtain ⟨y, hy, hle⟩ := hs.at_ hx
    simp only [List.getElem?_map, hx, Option.map_some, Option.some.injEq] at hy
    subst hy
    exact (dn (hle _ _ _ _ h1)).mono (fun _ _ h => h) (fun _ _ _ => rfl) _ (upto_le _ _)
  · obtain ⟨D, e1, e2, e3, e4, e5⟩ := h.df.marks d hd
    have hlt := (Array.getElem?_eq_some_iff.1 e2).1
    exact ⟨D, e1, (hchg D hlt e3 (by rintro rfl; exact hml d hd (by rw [e1]))).trans e2, fun hD => (hin D hD).elim e3 fun h => by omega, e4, e5⟩
  · obtain ⟨e1, e2, e3, e4⟩ := h.df.kp D o ho
    have hlt := (Array.getElem?_eq_some_iff.1 e1).1
    exact ⟨(hchg D hlt e2 (by rintro rfl; omega)).trans e1, fun hD => (hin D hD).elim e2 fun h => by omega, e3, e4⟩
  · refine (hchg k (Nat.lt_of_lt_of_le hk h.chg.size) (fun ⟨i, m, hi⟩ => ?_) (by rintro rfl; omega)).trans (h.chg.block k hk hn hy)
    rcases h.ext i k m hi with ⟨j, m', hj⟩ | hge
    · exact hn j m' hj
    · omega
  · have h1 := hp k _ v (Nat.le_trans hk hnl) (h.pres k x v hk hx)
    have : fgk k σ4.fg = [] := by
      unfold fgk
      rw [List.filter_eq_nil_iff]
      intro i hi hb
      rw [Nat.blt_eq] at hb
      have := Nat.ble_eq.mp (List.all_eq_true.1 hfg i hi)
      have h2 : k ≤ nb.n := hk
      omega
    rw [this] at h1
    exact dn h1
/-- How a round's body is left. -/
def RoundP (s : List AV) (k0 k : Nat) (H' : List AObj) : Exit → St → Prop
  | .normal, σ' => ∃ σ'', Tells σ' σ'' ∧ σ''.H = H' ∧ LeS (s.map (fgs (fgk k σ''.fg))) s ∧ (σ''.fg.all fun i => Nat.ble k0 i) = true
  | _, _ => False
theorem aw_range {g : Operand} {ps : List Tmp} {assign body : Code} (hsp : σ.nb.sp = none) (hlive : live σ.H = true) {gf : FuncId} {lb : List AV} (hg : σ.ev g = .fn (.func gf) [] lb) (hgf : GoFn P gf) (hlb : lb.all (idfree 4) = true)
    {xs : Nat → List AV} {n : Nat} (hit : AIter P gf lb xs n) (hps : ∀ i, i < n → (xs i).length = ps.length) (Hs : Nat → List AObj) (h0 : Hs 0 = σ.H)
    (round : ∀ i, i < n → ∀ L, AW P (some L) assign (Then (AW P (some L) body (RoundP σ.s σ.nb.n (Hs i).length (Hs (i + 1)))) (fun _ _ => False)) ⟨setPs σ.s ps (xs i), Hs i, [], ⟨(Hs i).length, 0, false, none, true⟩⟩)
    (next : Q .normal ⟨σ.s, Hs n, σ.fg, ⟨σ.nb.n, σ.nb.y, σ.nb.stop, σ.nb.sp, false⟩⟩) : AW P none (.rangeFunc g ps.toArray assign body) Q σ := by
  intro B μ a w hr
  obtain ⟨fn, c, hfn, hnm, hb⟩ := hgf
  have hspB : B.sp = none := by rw [← hr.df.sp]; exact hsp
  have htriv := hr.df.triv hspB
  refine wpIn_rangeFunc fun fi _ => ?_
  obtain ⟨rec, hrec⟩ : ∃ rec : LoopState → Option Code → Loop, rec = fun st pe => { state := st, pending := pe, fn := fi, tmps := a.tmps, params := ps.toArray, assign, body, defers := w.heap.size } := ⟨_, rfl⟩
  obtain ⟨l, hl⟩ : ∃ l, l = w.heap.size + 1 := ⟨_, rfl⟩
  obtain ⟨W1, hW1⟩ : ∃ W1, (w.alloc (.deferred (some []))).alloc (.loop (rec .ready none)) = W1 := ⟨_, rfl⟩
  have hs1 : W1.heap.size = w.heap.size + 2 := by rw [← hW1]; simp
  have hL1 : W1.heap[l]? = some (.loop (rec .ready none)) := by
    rw [← hW1, hl]; have := World.alloc_heap_new (w.alloc (.deferred (some []))) (.loop (rec .ready none)); rwa [World.size_alloc] at this
  have hK1 : W1.heap[w.heap.size]? = some (.deferred (some [])) := by
    rw [← hW1]; exact (Below.heap_alloc _ _ _ (by simp)).trans (World.alloc_heap_new w _)
  have hbel : Below w.heap.size w W1 := by
    rw [← hW1]; exact ((Below.refl _ w).alloc (Nat.le_refl _) _).alloc (by simp) _
  have hgv := hr.ev g
  rw [hg] at hgv
  generalize hge : a.eval g = gv at hgv
  cases hgv with
  | fn h1 h2 h3 h4 =>
    rename_i vs us
    obtain rfl : vs = [] := by simpa using h1.symm
    let mark : Deferred := { target := .collected w.heap.size, args := #[] }
    refine ⟨l, [mark], W1, { target := .fn (.func gf) us.toArray, args := #[.func (.yield l) #[] #[]] }, W1, gf, (Value.func (.yield l) #[] #[] :: us).toArray, W1, ?_, ?_, fun _ _ => trivial, ?_, fun h => by simp [fw, Fence.wide] at h, ?_⟩
    · rw [← hW1, hrec, hl]; exact run_enterLoop_outer _ _ _ _ _
    · simp only [resolve, hge]
      simp [go_sem]
    · simp [invoke, go_sem, run_enter hfn hnm hb]
    obtain ⟨aD, haD⟩ : ∃ aD : Act, aD = { tmps := a.tmps, defers := mark :: a.defers } := ⟨_, rfl⟩
    obtain ⟨nbM, hnbM⟩ : ∃ nbM : YB, nbM = ⟨σ.nb.n, σ.nb.y, σ.nb.stop, σ.nb.sp, false⟩ := ⟨_, rfl⟩
    have hsz := hr.chg.size
    have hnin : ∀ b, InMu μ b → b < w.heap.size := fun b ⟨i, m, hi⟩ => (hr.H.lt i b m hi).1
    have hfun : (fun b => B.X b ∨ False) = B.X := by funext b; simp
    have hdl : ∀ d ∈ aD.defers, d.target ≠ .collected l := fun d hd => by
      rw [haD] at hd
      rcases List.mem_cons.1 hd with rfl | hd
      · intro h; injection h with h; omega
      · obtain ⟨D, e1, e2, _⟩ := hr.df.marks d hd
        have := (Array.getElem?_eq_some_iff.1 e2).1
        rw [e1]
        intro h; injection h with h; omega
    -- the caller, with the loop's blocks laid
    have hr1 : SRel (B.at_ fun b => B.X b ∨ False) μ ⟨σ.s, Hs 0, σ.fg, nbM⟩ aD W1 := by
      rw [hfun, h0, hnbM, haD]
      refine ⟨hr.size, fun t x v hx hv => (hr.slot t x v hx hv).later hbel, hr.H.below hbel, ⟨hr.df.sp, ⟨hr.df.ok.keep, hr.df.ok.yl⟩, htriv _ _ _ _ _, fun d hd => ?_, ?_, fun h => (by cases h), fun hne => (hne hspB).elim, hr.df.triv, fun D o ho => ?_⟩, hr.chg.trans hr.ext (.of_below hbel), hr.ext, hr.nb, hr.le, fun k x v hk hx => (hr.pres k x v hk hx).later hbel⟩
      · rcases List.mem_cons.1 hd with rfl | hd
        · exact ⟨_, rfl, hK1, fun h => by have := hnin _ h; omega, fun h => by have := hr.H.xlt _ h; omega, hsz⟩
        · obtain ⟨D, e1, e2, e3, e4, e5⟩ := hr.df.marks d hd
          exact ⟨D, e1, (hbel.block D (Array.getElem?_eq_some_iff.1 e2).1).trans e2, e3, e4, e5⟩
      · refine List.pairwise_cons.2 ⟨fun d hd he => ?_, hr.df.apart⟩
        obtain ⟨D, e1, e2, e3, e4, e5⟩ := hr.df.marks d hd
        have hlt := (Array.getElem?_eq_some_iff.1 e2).1
        rw [e1] at he
        injection he with he
        injection he with he
        omega
      · obtain ⟨e1, e2, e3, e4⟩ := hr.df.kp D o ho
        exact ⟨(hbel.block D (Array.getElem?_eq_some_iff.1 e1).1).trans e1, e2, e3, e4⟩
    let J : Nat → Bool → (Nat → Prop) → (Nat → Prop) → World → Prop := fun y t Z O W => t = false ∧ (∀ b, O b → W1.heap.size ≤ b) ∧ W1.heap.size ≤ W.heap.size ∧ (∀ b, B.X b → Z b) ∧ Z l ∧ (∀ b, Z b → b < W.heap.size) ∧ ∃ μc, (∀ b, InMu μc b → Z b) ∧ ¬ InMu μc l ∧ SRel (B.at_ fun b => B.X b ∨ O b) μc ⟨σ.s, Hs y, σ.fg, nbM⟩ aD W ∧ W.heap[l]? = some (.loop (rec .ready none))
    have hok : Base.Ok (⟨W1, fun b => B.X b ∨ InMu μ b ∨ b = l, noMu, [], fun b => B.X b ∨ InMu μ b ∨ b = l, some (l, xs, n), J, none⟩ : Base P) := by
      refine ⟨?_, ?_⟩
      · rintro y t Z O W W' O' ⟨j1, j2, j3, j4, j5, j6, μc, j7, j8, j9, j10⟩ hs hO'
        have hll : ¬ O l := fun h => by have := j2 l h; omega
        refine ⟨j1, fun b hb => (hO' b hb).1.elim (j2 b) fun h => by omega, Nat.le_trans j3 hs.size, j4, j5, fun b hb => Nat.lt_of_lt_of_le (j6 b hb) hs.size, μc, j7, j8, j9.foreign hspB hs (fun k hk => ⟨(hO' k hk).1, fun h => (hO' k hk).2.1 (j7 k h), (hO' k hk).2.2⟩) (fun b hb => by have := j2 b hb; omega) (by omega), (hs.block l (j6 l j5) hll).trans j10⟩
      · rintro l' xs' n' he y Z O W vs ⟨j1, j2, j3, j4, j5, j6, μc, j7, j8, j9, j10⟩ hy hv r'
        injection he with he; injection he with e1 e2; injection e2 with e2 e3
        subst e1 e2 e3
        have hvl : vs.length = ps.length := by rw [← hv.1]; exact hps y hy
        have hyl := run_yield (P := P) (args := vs.toArray) j10 (by rw [hrec]; simpa using hvl)
        rw [hrec] at hyl
        refine ⟨fi, _, assign, body, hyl, roundIn_of_wpIn trivial ?_⟩
        have hlO : ¬ O l := fun h => by have := j2 l h; omega
        have hlX : ¬ B.X l := fun h => by have := hr.H.xlt l h; omega
        let Br : Base P := ⟨W, fun b => B.X b ∨ O b, μc, Hs y, fun b => b = l, none, fun _ _ _ _ _ => True, some (l, .loop (rec .ready none))⟩
        have hkeep : ∀ (k : Option (Nat × Obj)) (X1 : Nat → Prop), Base.Ok (⟨W, X1, μc, Hs y, fun b => b = l, none, fun _ _ _ _ _ => True, k⟩ : Base P) := fun _ _ => ⟨fun _ _ _ _ _ _ _ _ _ _ => trivial, fun _ _ _ h => by cases h⟩
        have hargs : RVs (OO (fun b => B.X b ∨ O b) (Hs y) μc) W μc (xs y) vs := hv.mono (fun b _ hb => by
          rcases hb with (h | h) | ⟨i, o, m, _, _, hm⟩
          · exact .inl (j4 b h)
          · exact .inr h
          · exact .inl (j7 b ⟨i, m, hm⟩)) (fun _ _ _ => rfl) fun i l h => by cases h
        have hset := setPs_rv ps hargs (fun k x v hx hv => j9.slot k x v hx (by rw [haD]; exact hv)) hr.size
        have hzip : (ps.toArray.zip vs.toArray).foldl (fun tmps x => tmps.setIfInBounds x.1 x.2) a.tmps = (ps.zip vs).foldl (fun t p => t.setIfInBounds p.1 p.2) a.tmps := by simp
        have hr0 : SRel Br μc ⟨setPs σ.s ps (xs y), Hs y, [], ⟨(Hs y).length, 0, false, none, true⟩⟩ { tmps := (ps.zip vs).foldl (fun t p => t.setIfInBounds p.1 p.2) a.tmps, defers := [] } W :=
          ⟨by rw [setPs_len]; exact hset.1.symm, hset.2, j9.H, ⟨rfl, hkeep _ _, trivial, fun d hd => (by cases hd), .nil, fun _ => rfl, fun h => (h rfl).elim, fun _ _ _ _ _ _ => trivial, fun D o ho => (by
            injection ho with ho; injection ho with e1 e2; subst e1 e2
            exact ⟨j10, j8, fun h => h.elim hlX hlO, (Array.getElem?_eq_some_iff.1 j10).1⟩)⟩, ⟨rfl, rfl, rfl, Nat.le_refl _, fun _ _ _ _ => rfl⟩, Ext.refl _ _, rfl, Nat.le_refl _, fun k x v _ hx => hx⟩
        have hA := round y hy l Br μc _ W hr0
        rw [← hzip] at hA
        refine wpIn_mono hA fun e a1 w1 ⟨σ1, q1, μ1, X1, hg1, hr2⟩ => ?_
        cases e <;> simp only [Then] at q1
        simp only [Exit.then]
        obtain ⟨t1, d1⟩ := a1
        obtain ⟨c1, c2, c3, c4⟩ := hr2.df.kp l _ rfl
        refine ⟨_, run_beginRound c1 (by rw [hrec]), ?_⟩
        have hr3 := (hr2.rekp none fun D o h => by cases h)
        have hr3 := hr3.obj (o' := .loop { rec .ready none with state := .busy }) (ds' := d1) c1 rfl c2 (.inr rfl) ⟨hr3.df.sp, hr3.df.ok, trivial, fun d hd => (by
            obtain ⟨D, e1, e2, e3, e4, e5⟩ := hr3.df.marks d hd
            exact ⟨D, e1, (World.putObj_heap_other (by rintro rfl; rw [c1] at e2; cases e2)).trans e2, e3, e4, e5⟩), hr3.df.apart, hr3.df.nm, hr3.df.xy, hr3.df.triv, fun D o h => by cases h⟩
        have hr3 := hr3.rekp (some (l, .loop { rec .ready none with state := .busy })) fun D o h => by
          injection h with h; injection h with e1 e2; subst e1 e2
          exact ⟨World.putObj_heap_same (Array.getElem?_eq_some_iff.1 c1).1, c2, c3, c4⟩
        refine wpIn_mono (q1 _ μ1 _ _ hr3) fun e a3 w3 ⟨σ3, q3, μ3, X3, hg3, hr4⟩ => ?_
        cases e <;> simp only [RoundP] at q3
        obtain ⟨σ4, ht, hH4, hs4, hfg4⟩ := q3
        obtain ⟨μ4, hr5⟩ := ht P _ μ3 a3 w3 hr4
        obtain ⟨d1, d2, d3, d4⟩ := hr5.df.kp l _ rfl
        have hr6 : SRel (B.at_ fun b => B.X b ∨ O b) μ4 ⟨σ.s, σ4.H, σ.fg, nbM⟩ aD w3 := j9.after (L := l) hspB (by show B.w.heap.size ≤ l; omega) hdl (k := some (l, .loop { rec .ready none with state := .busy })) (X4 := X3) hr5 ⟨fun b hb => hg3.le b (hg1.le b hb), fun b hb => (hg3.new b hb).elim (fun h => hg1.new b h) .inr⟩ hs4 (by rw [hnbM]; exact hfg4)
        refine ⟨_, _, run_endRound none d1, true, fun b => Z b ∨ InMu μ4 b, rfl, ⟨rfl, j2, by have h5 := hr5.chg.size; have h6 : W.heap.size ≤ w3.heap.size := h5; simp; omega, fun b hb => .inl (j4 b hb), .inl j5, fun b hb => ?_, μ4, fun b h => .inr h, d2, ?_, ?_⟩, fun b hb => .inl hb, fun b hb => ?_, ?_⟩
        · have h6 : W.heap.size ≤ w3.heap.size := hr5.chg.size
          simp only [World.putObj_size]
          rcases hb with hb | ⟨i, m, hi⟩
          · have := j6 b hb; omega
          · exact (hr5.H.lt i b m hi).1
        · rw [haD] at hr6 hdl ⊢
          rw [← hH4]
          refine hr6.obj d1 rfl d2 (.inl (by show B.w.heap.size ≤ l; omega)) ⟨hr6.df.sp, hr6.df.ok, htriv _ _ _ _ _, fun d hd => ?_, hr6.df.apart, hr6.df.nm, hr6.df.xy, hr6.df.triv, fun D o ho => ?_⟩
          · obtain ⟨D, e1, e2, e3, e4, e5⟩ := hr6.df.marks d hd
            exact ⟨D, e1, (World.putObj_heap_other (by rintro rfl; exact hdl d hd (by rw [e1]))).trans e2, e3, e4, e5⟩
          · obtain ⟨e1, e2, e3, e4⟩ := hr6.df.kp D o ho
            have e4 : D < B.w.heap.size := e4
            exact ⟨(World.putObj_heap_other (by rintro rfl; omega)).trans e1, e2, e3, e4⟩
        · rw [World.putObj_heap_same (Array.getElem?_eq_some_iff.1 d1).1, hrec]; rfl
        · have h6 : W.heap.size ≤ w3.heap.size := hr5.chg.size
          simp only [World.putObj_size]
          rcases hb with hb | ⟨i, m, hi⟩
          · exact ⟨.inl hb, by have := j6 b hb; omega⟩
          · refine ⟨?_, (hr5.H.lt i b m hi).1⟩
            rcases hr5.ext i b m hi with ⟨j, m', hj⟩ | h
            · exact .inl (j7 b ⟨j, m', hj⟩)
            · exact .inr h
        · have h6 : W.heap.size ≤ w3.heap.size := hr5.chg.size
          refine ⟨hr5.chg.os, hr5.chg.tape, hr5.chg.output, by simpa using h6, fun k hk hz => ?_⟩
          have hkl : k ≠ l := by rintro rfl; exact hz j5
          exact (World.putObj_heap_other hkl).trans (hr5.chg.block k hk (fun i m hi => hz (j7 k ⟨i, m, hi⟩)) hkl)
    have hargs : RVs (fun b => B.X b ∨ InMu μ b ∨ b = l) W1 noMu lb us := ⟨h3, fun j x v hx hv => by
      have h5 := idfree_rv 4 (List.all_eq_true.1 hlb x (List.mem_of_getElem? hx)) (h4 j x v hx hv)
      refine h5.mono (fun b hb hb' => ?_) (fun b hb _ => hbel.block b hb) _ fun _ _ h => h
      rcases hb' with h | h | h
      · exact .inl h
      · exact live_oo hlive hr.H h
      · omega⟩
    have hZ : ∀ b, (B.X b ∨ InMu μ b ∨ b = l) → b < W1.heap.size := fun b hb => by
      rcases hb with h | h | h
      · have := hr.H.xlt b h; omega
      · have := hnin b h; omega
      · omega
    have hcall := hit (⟨W1, fun b => B.X b ∨ InMu μ b ∨ b = l, noMu, [], fun b => B.X b ∨ InMu μ b ∨ b = l, some (l, xs, n), J, none⟩ : Base P) l us rfl rfl rfl rfl rfl hok
      ⟨rfl, fun b h => h.elim, Nat.le_refl _, fun b h => .inl h, .inr (.inr rfl), hZ, μ, fun b h => .inr (.inl h), fun h => by have := hnin _ h; omega, hr1, hL1⟩
      hZ (hr.H.gl.step (w' := W1) (show w.heap.size ≤ W1.heap.size by omega) (fun b hb _ _ => hbel.block b hb) (fun b hb => hb.elim .inl fun h => h.elim (fun ⟨i, m, h⟩ => .inr (.inl ⟨i, m, h⟩)) fun h => .inr (.inr (by omega))) fun i b m h => (by cases h)) hargs
    refine hcall.mono fun e w' he => ?_
    obtain ⟨v, y, t, X', rfl, ⟨j1, j2, j3, j4, j5, j6, μc, j7, j8, j9, j10⟩, k2, _, _, _⟩ := he
    obtain rfl := k2 j1
    refine ⟨none, _, by have := run_endLoop (P := P) j10 (by rw [hrec]; simp); rw [hrec] at this; exact this, ?_⟩
    rw [hfun] at j9
    have j9 : SRel B μc ⟨σ.s, Hs y, σ.fg, nbM⟩ aD w' := j9
    refine ⟨_, next, SRel.sx (μ := μc) ?_⟩
    rw [hnbM, haD] at j9
    rw [haD] at hdl
    have hlB : ¬ B.X l := fun h => by have := hr.H.xlt l h; omega
    refine j9.obj j10 rfl j8 (.inl (by omega)) ⟨j9.df.sp, j9.df.ok, htriv _ _ _ _ _, fun d hd => ?_, j9.df.apart, j9.df.nm, j9.df.xy, j9.df.triv, fun D o ho => ?_⟩
    · obtain ⟨D, e1, e2, e3, e4, e5⟩ := j9.df.marks d hd
      exact ⟨D, e1, (World.putObj_heap_other (by rintro rfl; exact hdl d hd (by rw [e1]))).trans e2, e3, e4, e5⟩
    · obtain ⟨e1, e2, e3, e4⟩ := j9.df.kp D o ho
      exact ⟨(World.putObj_heap_other (by rintro rfl; omega)).trans e1, e2, e3, e4⟩
end
end Go.Proofs.YthdckgcalooipaaDoor
namespace Go.Proofs.YthdckgcalooipaaDoor
section
open Go.RowKit
set_option linter.unusedVariables false
set_option linter.unusedSimpArgs false
set_option linter.unusedSectionVars false
variable {P : Program} {X : Nat → Prop} {H H' : List AObj} {μ μ' : Mu} {w w' : World} {O O' : Nat → Prop}
theorem reps_at {α : Type} {d : Kd α} : ∀ {xs : List α} {cs : List Value}, Reps d w O xs cs → cs.length = xs.length * d.sz ∧ ∀ (k : Nat) x, xs[k]? = some x → ∃ c, d.rel w O x c ∧ ∀ j, j < d.sz → cs[k * d.sz + j]? = c[j]?
  | [], cs, h => by
    have : cs = [] := h
    subst this
    exact ⟨by simp, fun k x h => by simp at h⟩
  | x :: xs, cs, h => by
    obtain ⟨c, r, rfl, h1, h2⟩ := h
    obtain ⟨g1, g2⟩ := reps_at h2
    have hl := d.len h1
    refine ⟨by simp [hl, g1, Nat.add_mul, Nat.add_comm], fun k y hk => ?_⟩
    cases k with
    | zero =>
      simp at hk; subst hk
      exact ⟨c, h1, fun j hj => by rw [List.getElem?_append_left (by omega)]; simp⟩
    | succ k =>
      obtain ⟨c', e1, e2⟩ := g2 k y (by simpa using hk)
      refine ⟨c', e1, fun j hj => ?_⟩
      rw [List.getElem?_append_right (by rw [Nat.add_mul]; omega), ← e2 j hj]
      congr 1
      rw [Nat.add_mul]; omega
theorem reps_one {α : Type} {d : Kd α} : ∀ {xs : List α} {cs : List Value}, Reps d w O xs cs → ∀ u ∈ cs, u.oneCell' = true
  | [], cs, h, u, hu => by
    have : cs = [] := h
    subst this; cases hu
  | x :: xs, cs, h, u, hu => by
    obtain ⟨c, r, rfl, h1, h2⟩ := h
    rcases List.mem_append.1 hu with h | h
    · exact d.one h1 u h
    · exact reps_one h2 u h
theorem spot_none {a : Addr} {u : Value} (h : w.cell? a = some u) : a.spot = none := by
  unfold World.cell? at h
  split at h
  · cases hs : a.spot with
    | none => rfl
    | some s => rw [hs] at h; simp at h
  · cases h
theorem rv_sl {α : Type} {d : Kd α} {enc : α → List AV} (z : α) (he : ∀ x cs, d.rel w O x cs → RVs O w noMu (enc x) cs) (hl : ∀ x, (enc x).length = d.sz) (hz : 0 < d.sz) {v : Value} {xs : List α} (h : Sl d w O v xs) :
    RV O w μ (.sl d.sz xs.length false fun k => enc (xs.getD k z)) v := by
  obtain ⟨A, c, rfl, h1, h2, h3⟩ := h
  by_cases hx : xs = []
  · subst hx
    exact .sl (vs := []) (by simp) h1 h2 (fun h => by cases h) (by simp) (fun k hk => by simp at hk) (fun k j a v hk => by simp at hk) hz fun h => (h rfl).elim
  · obtain ⟨a, cs, rfl, h4, h5, h6⟩ := h3 hx
    obtain ⟨g1, g2⟩ := reps_at h5
    refine .sl (vs := cs) (reps_one h5) h1 h2 (fun h => by cases h) g1 (fun k hk => hl _) (fun k j a v hk ha hv => ?_) hz fun _ => ?_
    · obtain ⟨c', e1, e2⟩ := g2 k _ (List.getElem?_eq_getElem hk)
      have hj : j < d.sz := by rw [← hl (xs.getD k z)]; exact (List.getElem?_eq_some_iff.1 ha).1
      rw [e2 j hj] at hv
      have : xs.getD k z = xs[k] := by simp [List.getD_eq_getElem?_getD, hk]
      rw [this] at ha
      exact (he _ _ e1).2 j a v ha hv
    · have hlen : 0 < cs.length := by
        rw [g1]
        exact Nat.mul_pos (List.length_pos_iff.2 hx) hz
      have h0 := h6 0 _ (List.getElem?_eq_getElem hlen)
      have hs := spot_none h0
      have ha : a = ⟨a.block, a.off, none⟩ := by
        simp only [Addr.add, if_pos] at hs
        cases a; simp_all
      refine ⟨a.block, a.off, by rw [← ha], h4, fun j u hu => ?_⟩
      have := h6 j u hu
      unfold Addr.add at this
      split at this
      · rename_i hj; subst hj; rw [ha] at this; exact this
      · exact this
theorem run_apure {f : FuncId} {args : List AV} {N : List AObj} {v : Value} (h : APure P f args (.lit v) N) (hgl : GlobOk (fun _ => False) noMu w) {vs : List Value} (hv : RVs (fun _ => False) w noMu args vs) : Calls P f vs.toArray w fun e w' => e = .returned v ∧ Below w.heap.size w w' := by
  refine (h w (fun _ => False) noMu vs ⟨fun i l h => (by cases h), fun i j b m m' h => (by cases h), fun i b m h => (by cases h), fun i o h => (by simp at h), fun b h => h.elim, hgl⟩ ⟨hv.1, fun j a v ha hu => (hv.2 j a v ha hu).mono (fun b _ hb => hb.elim id fun ⟨i, o, m, hi, _⟩ => (by simp at hi)) (fun _ _ _ => rfl) _ fun _ _ h => h⟩).mono fun e w' he => ?_
  obtain ⟨u, r', H1, fg1, μ1, rfl, ⟨rfl, rfl⟩, g1, g2, g3, g4, _, _⟩ := he
  cases g2
  exact ⟨rfl, g3.below⟩
theorem LeS.setn : ∀ {s : List AV} {t : Nat} {x y : AV}, nth s t = some x → AV.Le x y → LeS s (setn s t y)
  | [], t, x, y, h, _ => by simp [nth] at h
  | a :: s, 0, x, y, h, hl => by simp only [nth] at h; injection h with h; subst h; exact .cons hl (.refl _)
  | a :: s, t + 1, x, y, h, hl => .cons (.refl _) (LeS.setn (s := s) (t := t) h hl)
/-- One slot, in other words. -/
theorem Tells.slot (t : Nat) (y : AV) {s : List AV} {H : List AObj} {fg : List Nat} {nb : YB} {x : AV} (h : nth s t = some x) (hl : AV.Le x y) : Tells ⟨s, H, fg, nb⟩ ⟨setn s t y, H, fg, nb⟩ := Tells.le (LeS.setn h hl) (.refl _)
theorem aw_loopy {P : Program} {r : Option Nat} {Q : Exit → St → Prop} {c : Code} {ι : Type} {s : List AV} {H0 : List AObj} {fg : List Nat} {nb : YB} (ws : List Nat) (g : ι → List (Nat × AV)) (Hs : ι → List AObj) (nbs : ι → YB) (m : ι → Nat) (i0 : ι) (h0 : Tells ⟨s, H0, fg, nb⟩ (lst s fg (nbs i0) ws (g i0) (Hs i0)))
    (round : ∀ i, AW P r c (Then (fun σ' => ∃ j, m j < m i ∧ Tells σ' (lst s fg (nbs j) ws (g j) (Hs j))) Q) (lst s fg (nbs i) ws (g i) (Hs i))) : AW P r (.loop c) Q ⟨s, H0, fg, nb⟩ :=
  aw_loop (fun i => lst s fg (nbs i) ws (g i) (Hs i)) m i0 h0 round
theorem iterp {n : Nat} {σ : St} (h : σ.nb.stop = false → σ.nb.y = n) : IterP n .normal σ ∧ IterP n .ret σ := ⟨h, h⟩
theorem roundp {s : List AV} {k0 k : Nat} {H' : List AObj} {σ' : St} (σ'' : St) (ht : Tells σ' σ'') (hH : σ''.H = H') (hs : LeS (s.map (fgs (fgk k σ''.fg))) s) (hf : (σ''.fg.all fun i => Nat.ble k0 i) = true) : RoundP s k0 k H' .normal σ' := ⟨σ'', ht, hH, hs, hf⟩
theorem round_end {n : St → Prop} {Q : Exit → St → Prop} {σ : St} (h : n σ) : Then n Q .normal σ := h
theorem al_pureE {tab : Tab} {r : Option Nat} {l R : List Oper} {Q : Exit → St → Prop} {σ : St} {o : Oper} (hT : TabOk P tab) (hw : wantA l σ o = some true) {x : AV} (h : ∃ q, aPure tab σ.H σ.ev o.op = some (q, x) ∧ q) (next : AL P r l Q R (σ.put o.dst x)) : AL P r l Q (o :: R) σ := by
  obtain ⟨q, h, hq⟩ := h
  exact al_pure hT hw h hq next
end
end Go.Proofs.YthdckgcalooipaaDoor
namespace Go.Proofs.YthdckgcalooipaaDoor
section
open Go.RowKit
set_option linter.unusedVariables false
set_option linter.unusedSimpArgs false
set_option linter.unusedSectionVars false
variable {P : Program} {tab : Tab} {r : Option Nat} {Q : Exit → St → Prop}
/-- It looks at slots alone. -/
def lateOp : Op → Bool
  | .extract _ _ => true
  | .move _ => true
  | .assign _ => true
  | _ => false
theorem late_run {ρ : Operand → Value} {o : Oper} (h : lateOp o.op = true) {w : World} {R : Value → World → Prop} (hs : StepOk P (execOp ρ o) w R) : ∃ v, (∀ w', (execOp ρ o).run P w' = .ok (.value v) w') ∧ R v w := by
  unfold StepOk at hs
  cases ho : o.op <;> rw [ho] at h <;> first | cases h | skip
  · rename_i x
    have e : ∀ w', (execOp ρ o).run P w' = .ok (.value (ρ x)) w' := fun w' => by unfold execOp; rw [ho]; rfl
    rw [e] at hs
    exact ⟨_, e, hs⟩
  · rename_i x
    have e : ∀ w', (execOp ρ o).run P w' = .ok (.value (ρ x)) w' := fun w' => by unfold execOp; rw [ho]; rfl
    rw [e] at hs
    exact ⟨_, e, hs⟩
  · rename_i x k
    have e : ∀ w', (execOp ρ o).run P w' = (do pure (.value (← Instr.extract (ρ x) k)) : Sem Next).run P w' := fun w' => by unfold execOp; rw [ho]
    rw [e] at hs
    have tup : ∃ vs v, ρ x = .tuple vs ∧ vs[k]? = some v := by
      unfold Instr.extract at hs
      cases hx : ρ x <;> rw [hx] at hs <;> first
        | (simp [stuck] at hs; done)
        | (rename_i vs
           cases hv : vs[k]? with
           | none => simp [hv, stuck] at hs
           | some v => exact ⟨vs, v, rfl, hv⟩)
    obtain ⟨vs, v, hx, hv⟩ := tup
    have e2 : ∀ w', (execOp ρ o).run P w' = .ok (.value v) w' := fun w' => by
      rw [e]; unfold Instr.extract; rw [hx]; simp only [hv]; rfl
    rw [← e, e2] at hs
    exact ⟨v, e2, hs⟩
theorem late_about {o : Oper} (h : lateOp o.op = true) (w : World) (ρ : Operand → Value) : o.about P w ρ = none := by
  unfold Oper.about
  cases ho : o.op <;> rw [ho] at h <;> first | cases h | rfl
def lateB (l : List Oper) (m j : Nat) : Bool :=
  Nat.blt j m && match nth l j with
    | some o => o.guard.isNone && lateOp o.op && (List.range l.length).all fun k => k == j || match nth l k with
      | some ok => ok.after.toList.any (fun e => Region.binds .any e && e.on == j) || anc l.toArray j k || o.apart l.toArray ok
      | none => false
    | none => false
theorem lateB_spec {l : List Oper} {m j : Nat} (h : lateB l m j = true) : j < m ∧ ∃ o, l[j]? = some o ∧ o.guard = none ∧ lateOp o.op = true ∧
    ∀ (k : Nat) ok, l[k]? = some ok → k ≠ j → (∃ e ∈ ok.after, Region.binds .any e = true ∧ e.on = j) ∨ anc l.toArray j k = true ∨ o.apart l.toArray ok = true := by
  unfold lateB at h
  rw [Bool.and_eq_true, Nat.blt_eq] at h
  refine ⟨h.1, ?_⟩
  have h2 := h.2
  rw [nth_eq] at h2
  cases ho : l[j]? with
  | none => rw [ho] at h2; cases h2
  | some o =>
    rw [ho] at h2
    simp only [Bool.and_eq_true] at h2
    refine ⟨o, rfl, by simpa using h2.1.1, h2.1.2, fun k ok hk hne => ?_⟩
    have hlt := (List.getElem?_eq_some_iff.1 hk).1
    have := List.all_eq_true.1 h2.2 k (List.mem_range.2 hlt)
    rw [nth_eq, hk] at this
    simp only [Bool.or_eq_true, beq_iff_eq] at this
    rcases this with h | (h | h) | h
    · exact absurd h hne
    · obtain ⟨e, he, hb⟩ := List.any_eq_true.1 h
      simp only [Bool.and_eq_true, beq_iff_eq] at hb
      exact .inl ⟨e, by simpa using he, hb.1, hb.2⟩
    · exact .inr (.inl h)
    · exact .inr (.inr h)
structure OkL (l : List Oper) (m : Nat) : Prop where
  tail : ∀ i j, m ≤ i → i < l.length → j < i → anc l.toArray i j = true ∨ lateB l m j = true
def okS0b (ops : Array Oper) (m : Nat) : Bool := okS ops ops.size && decide (m ≤ ops.size)
theorem okS0b_spec {ops : Array Oper} {m : Nat} (h : okS0b ops m = true) : OkS0 ops m := by
  unfold okS0b at h
  rw [Bool.and_eq_true, decide_eq_true_eq] at h
  have := okS_spec h.1
  exact ⟨this.lt, this.free, this.sel, h.2⟩
def okDL (l : List Oper) (m : Nat) : Bool := okS0b l.toArray m && okP l m && (List.range l.length).all fun i => Nat.blt i m || (List.range i).all fun j => anc l.toArray i j || lateB l m j
theorem okDL_spec {l : List Oper} {m : Nat} (h : okDL l m = true) : OkD l m ∧ OkL l m := by
  unfold okDL at h
  simp only [Bool.and_eq_true] at h
  refine ⟨okD_of (okS0b_spec h.1.1) h.1.2, ⟨fun i j hi hl hj => ?_⟩⟩
  have := List.all_eq_true.1 h.2 i (List.mem_range.2 hl)
  rw [Bool.or_eq_true, Nat.blt_eq] at this
  rcases this with h | h
  · omega
  · have := List.all_eq_true.1 h j (List.mem_range.2 hj)
    rwa [Bool.or_eq_true] at this
theorem draw_anyL {l : List Oper} {m : Nat} {D : List (Oper × DR)} {σ : St} {B : Base P} (hL : OkL l m) (hq : ∀ c σ, Q (.panic c) σ → False) (h : DOk l m D) (hnd : l.all nDefer = true) (hc : ∀ k, k < m → CStep P l σ D k)
    (ht : AL P none l Q (l.drop m) (σS σ D fun _ => true)) : ∀ (fuel : Nat) (listed : Array Bool) (a : Act) (w : World) (μ : Mu), listed.size = l.length → (∀ i, listed.getD i false = true → ∀ j, anc l.toArray i j = true → listed.getD j false = true) → (∀ j, m ≤ j → listed.getD j false = false) →
    ((List.range m).filter fun j => !listed.getD j true).length + (l.length - m) ≤ fuel → SRel B μ (σS σ D fun j => listed.getD j false) a w → Un μ σ.H.length D (fun j => listed.getD j false) →
    wpAnyIn (fw none) 0 P .any l.toArray (Post B Q) fuel listed a w := by
  have hml : m ≤ l.length := by have := h.ok.s.le; simpa using this
  have done : ∀ {fuel : Nat} {listed : Array Bool} {a : Act} {w : World} {μ : Mu}, listed.size = l.length → (∀ j, m ≤ j → listed.getD j false = false) → ((List.range m).filter fun j => !listed.getD j true) = [] → l.length - m ≤ fuel → SRel B μ (σS σ D fun j => listed.getD j false) a w →
      wpAnyIn (fw none) 0 P .any l.toArray (Post B Q) fuel listed a w := by
    intro fuel listed a w μ hs htl hR hf hr
    have hall : ∀ j, j < m → listed.getD j false = true := fun j hj => by
      have := List.filter_eq_nil_iff.1 hR j (List.mem_range.2 hj)
      rw [← getD_true_false (by omega)]; simpa using this
    have hsame : (σS σ D fun j => listed.getD j false) = σS σ D fun _ => true := by
      have key : ∀ (D' : List (Oper × DR)) (k : Nat), k + D'.length = m → (∀ s, slotsS (fun j => listed.getD j false) k D' s = slotsS (fun _ => true) k D' s) ∧ newsS (fun j => listed.getD j false) k D' = newsS (fun _ => true) k D' := by
        intro D'
        induction D' with
        | nil => intro k _; exact ⟨fun s => rfl, rfl⟩
        | cons p D' ih =>
          intro k hk
          simp only [List.length_cons] at hk
          obtain ⟨i1, i2⟩ := ih (k + 1) (by omega)
          exact ⟨fun s => by simp only [slotsS]; rw [i1, hall k (by omega)], by simp only [newsS]; rw [i2, hall k (by omega)]⟩
      obtain ⟨k1, k2⟩ := key D 0 (by rw [h.len]; omega)
      unfold σS
      rw [k1, k2]
    rw [hsame] at hr
    refine any_of_tailIn h.ok.s (fun i j hj hi hlt => (hL.tail i j (by omega) (by simpa using hi) hlt).elim id fun hb => by have := (lateB_spec hb).1; omega) fuel m listed a w (by simpa using hs) (fun j => ?_) (Nat.le_refl _) (by simpa using hml) (by simpa using hf) (by simpa using ht B μ a w hr)
    by_cases hj : j < m
    · rw [hall j hj]; simp [hj]
    · rw [htl j (by omega)]; simp [hj]
  intro fuel
  induction fuel with
  | zero =>
    intro listed a w μ hs hcl htl hf hr hun
    exact done hs htl (List.eq_nil_of_length_eq_zero (by omega)) (by omega) hr
  | succ fuel ih =>
    intro listed a w μ hs hcl htl hf hr hun
    by_cases hR : (List.range m).filter (fun j => !listed.getD j true) = []
    · rw [hR] at hf
      exact done hs htl hR (by simp at hf; omega) hr
    have hmem : ∀ j, j ∈ (List.range m).filter (fun j => !listed.getD j true) ↔ j < m ∧ listed.getD j true = false := fun j => by simp
    have hpw : ((List.range m).filter fun j => !listed.getD j true).Pairwise (· < ·) := List.Pairwise.filter _ List.pairwise_lt_range
    have hanc : ∀ i, i ∈ Region.ready .any l.toArray listed → ∀ j, anc l.toArray i j = true → listed.getD j false = true := by
      intro i hi j hj
      obtain ⟨_, o, ho, ha⟩ := mem_ready.1 hi
      obtain ⟨e, he, hb, hh⟩ := (anc_iff ho (h.ok.s.lt i o ho) j).1 hj
      rcases hh with rfl | hh
      · exact ha e he hb
      · exact hcl _ (ha e he hb) j hh
    obtain ⟨i0, R0, hRe0⟩ : ∃ i R', (List.range m).filter (fun j => !listed.getD j true) = i :: R' := by
      cases hc' : (List.range m).filter (fun j => !listed.getD j true) with
      | nil => exact absurd hc' hR
      | cons i R' => exact ⟨i, R', rfl⟩
    have him0 := (hmem i0).1 (by rw [hRe0]; simp)
    have hlow0 : ∀ j, j < i0 → listed.getD j false = true := by
      intro j hj
      rw [← getD_true_false (by omega)]
      cases hc' : listed.getD j true with
      | true => rfl
      | false =>
        have : j ∈ i0 :: R0 := by rw [← hRe0]; exact (hmem j).2 ⟨by omega, hc'⟩
        rw [hRe0, List.pairwise_cons] at hpw
        rcases List.mem_cons.1 this with h1 | h1
        · omega
        · have := hpw.1 j h1; omega
    have hil0 : i0 < l.toArray.size := by simp; omega
    have hrd0 : i0 ∈ Region.ready .any l.toArray listed := by
      rw [mem_ready]
      exact ⟨him0.2, l.toArray[i0], Array.getElem?_eq_getElem hil0, fun e he hb => hlow0 _ (h.ok.s.lt i0 _ (Array.getElem?_eq_getElem hil0) e he hb)⟩
    by_cases hlate : lateB l m i0 = true
    · obtain ⟨_, o, hoo, hgd, hlo, hap⟩ := lateB_spec hlate
      have hDi : i0 < D.length := by rw [h.len]; exact him0.1
      have hp : D[i0]? = some D[i0] := List.getElem?_eq_getElem hDi
      have hoe : o = D[i0].1 := by
        have := h.op i0 _ hp
        rw [hoo] at this; injection this
      have hS : listed.getD i0 false = false := by rw [← getD_true_false (by omega)]; exact him0.2
      have hw1 : ∀ S, wantA l (σS σ D S) D[i0].1 = some true := fun S => by unfold wantA; rw [← hoe, hgd]
      rcases hc i0 him0.1 _ hp with ⟨_, hd⟩ | ⟨hw2, _⟩
      · have hstep := hd w B.X μ (σS σ D fun j => listed.getD j false).H a.eval hr.H (fun i ob hi => H_old i ob hi) (fun y hy => by rw [← ev_same h hp hS (hanc i0 hrd0) y hy]; exact hr.ev y)
        rw [← hoe] at hstep
        obtain ⟨v, hv, hb, hres⟩ := late_run hlo hstep
        have hN : D[i0].2.N = none := by
          cases hN : D[i0].2.N with
          | none => rfl
          | some ob =>
            rw [hN] at hres
            obtain ⟨b, mb, cur, e1, e2, _⟩ := hres
            omega
        rw [hN] at hres
        have hset : (fun j => (listed.setIfInBounds i0 true).getD j false) = add (fun j => listed.getD j false) i0 := by
          funext j
          by_cases hj : i0 = j
          · subst hj
            rw [add_eq, Array.getD_eq_getD_getElem?, Array.getElem?_setIfInBounds_self, if_pos (by omega)]; rfl
          · rw [getD_set_ne _ hj, add_ne (Ne.symm hj)]
        have hy : YieldsFenced P l.toArray o v a := ⟨.inl ⟨by unfold Region.wanted; rw [hgd], hv⟩, fun w => late_about hlo w _⟩
        refine wpAnyIn_first (oi := o) (v := v) rfl (by simpa using hoo) (fun j o' cs b hj => h.ok.s.sel j o' hj cs b) (fun c a' w' ⟨σ', h1, _⟩ => (hq c σ' h1).elim) fuel listed a w (fun j oj hj hne hls hno => ?_) hrd0 hy ?_
        · have := hap j oj (by simpa using hj) hne
          rcases this with ⟨e, he, hb, hon⟩ | han | hap
          · exact (hno e he hb hon).elim
          · have h1 := hanc i0 hrd0 j han
            have hjl : j < l.toArray.size := (Array.getElem?_eq_some_iff.1 hj).1
            rw [← getD_true_false (by simp at hjl; omega), hls] at h1; cases h1
          · exact hap
        · have hsr := step_plain h hp hS hN hr hb (by rw [hN] at *; exact hres)
          rw [← hoe] at hsr
          refine ih _ _ w μ (by simpa using hs) ?_ ?_ ?_ (by rw [hset]; exact hsr) (by
            rw [hset]
            intro k p ob hk hN' hs'
            refine hun k p ob hk hN' ?_
            have : k ≠ i0 := by rintro rfl; rw [add_eq] at hs'; cases hs'
            rw [add_ne this] at hs'; exact hs')
          · intro k hk1 j hj
            by_cases hkj : i0 = j
            · subst hkj
              rw [Array.getD_eq_getD_getElem?, Array.getElem?_setIfInBounds_self, if_pos (by omega)]; rfl
            · rw [getD_set_ne _ hkj]
              by_cases hki : i0 = k
              · subst hki; exact hanc i0 hrd0 j hj
              · rw [getD_set_ne _ hki] at hk1; exact hcl k hk1 j hj
          · intro j hj
            rw [getD_set_ne _ (by omega)]
            exact htl j hj
          · obtain ⟨R1, R2, hsp⟩ := List.append_of_mem ((hmem i0).2 ⟨him0.1, him0.2⟩)
            have hfil : (List.range m).filter (fun j => !(listed.setIfInBounds i0 true).getD j true) = R1 ++ R2 := by
              rw [← filter_pull hsp]
              congr 1
              funext j
              by_cases hj : i0 = j
              · subst hj
                rw [Array.getD_eq_getD_getElem?, Array.getElem?_setIfInBounds_self, if_pos (by omega)]; simp
              · rw [getD_set_ne _ hj]
                have : (j != i0) = true := by simp; omega
                rw [this, Bool.true_and]
            rw [hfil]
            have : ((List.range m).filter fun j => !listed.getD j true).length = (R1 ++ R2).length + 1 := by rw [hsp]; simp; omega
            omega
      · rw [hw1] at hw2; cases hw2
    refine ⟨fun hrd => ?_, fun i hi => ?_⟩
    · exfalso
      obtain ⟨i, R', hRe⟩ : ∃ i R', (List.range m).filter (fun j => !listed.getD j true) = i :: R' := by
        cases hc' : (List.range m).filter (fun j => !listed.getD j true) with
        | nil => exact absurd hc' hR
        | cons i R' => exact ⟨i, R', rfl⟩
      have him := (hmem i).1 (by rw [hRe]; simp)
      have hlow : ∀ j, j < i → listed.getD j false = true := by
        intro j hj
        rw [← getD_true_false (by omega)]
        cases hc' : listed.getD j true with
        | true => rfl
        | false =>
          have : j ∈ i :: R' := by rw [← hRe]; exact (hmem j).2 ⟨by omega, hc'⟩
          rw [hRe, List.pairwise_cons] at hpw
          rcases List.mem_cons.1 this with h1 | h1
          · omega
          · have := hpw.1 j h1; omega
      have hil : i < l.toArray.size := by simp; omega
      have : i ∈ Region.ready .any l.toArray listed := by
        rw [mem_ready]
        exact ⟨him.2, l.toArray[i], Array.getElem?_eq_getElem hil, fun e he hb => hlow _ (h.ok.s.lt i _ (Array.getElem?_eq_getElem hil) e he hb)⟩
      rw [hrd] at this
      cases this
    · obtain ⟨h0, o, ho, _⟩ := mem_ready.1 hi
      have hlt := (Array.getElem?_eq_some_iff.1 ho).1
      have him : i < m := by
        rcases Nat.lt_or_ge i m with h1 | h1
        · exact h1
        · exfalso
          have := hanc i hi i0 ((hL.tail i i0 h1 (by simpa using hlt) (by omega)).resolve_right hlate)
          rw [← getD_true_false (by omega), him0.2] at this
          cases this
      have hS : listed.getD i false = false := by rw [← getD_true_false (by omega)]; exact h0
      have hDi : i < D.length := by rw [h.len]; exact him
      have hp : D[i]? = some D[i] := List.getElem?_eq_getElem hDi
      have hop := h.op i _ hp
      have hoe : o = D[i].1 := by
        simp only [List.getElem?_toArray] at ho
        rw [hop] at ho; injection ho with ho; exact ho.symm
      have hset : (fun j => (listed.setIfInBounds i true).getD j false) = add (fun j => listed.getD j false) i := by
        funext j
        by_cases hj : i = j
        · subst hj
          rw [add_eq, Array.getD_eq_getD_getElem?, Array.getElem?_setIfInBounds_self, if_pos (by omega)]; rfl
        · rw [getD_set_ne _ hj, add_ne (Ne.symm hj)]
      have hnext : ∀ (a' : Act) (w' : World) (μ' : Mu), SRel B μ' (σS σ D (add (fun j => listed.getD j false) i)) a' w' → Un μ' σ.H.length D (add (fun j => listed.getD j false) i) →
          wpAnyIn (fw none) 0 P .any l.toArray (Post B Q) fuel (listed.setIfInBounds i true) a' w' := by
        intro a' w' μ' hr' hun'
        refine ih _ a' w' μ' (by simpa using hs) ?_ ?_ ?_ (by rw [hset]; exact hr') (by rw [hset]; exact hun')
        · intro k hk1 j hj
          by_cases hkj : i = j
          · subst hkj
            rw [Array.getD_eq_getD_getElem?, Array.getElem?_setIfInBounds_self, if_pos (by omega)]; rfl
          · rw [getD_set_ne _ hkj]
            by_cases hki : i = k
            · subst hki; exact hanc i hi j hj
            · rw [getD_set_ne _ hki] at hk1; exact hcl k hk1 j hj
        · intro j hj
          rw [getD_set_ne _ (by omega)]
          exact htl j hj
        · obtain ⟨R1, R2, hsp⟩ := List.append_of_mem ((hmem i).2 ⟨him, h0⟩)
          have hfil : (List.range m).filter (fun j => !(listed.setIfInBounds i true).getD j true) = R1 ++ R2 := by
            rw [← filter_pull hsp]
            congr 1
            funext j
            by_cases hj : i = j
            · subst hj
              rw [Array.getD_eq_getD_getElem?, Array.getElem?_setIfInBounds_self, if_pos (by omega)]; simp
            · rw [getD_set_ne _ hj]
              have : (j != i) = true := by simp; omega
              rw [this, Bool.true_and]
          rw [hfil]
          have : ((List.range m).filter fun j => !listed.getD j true).length = (R1 ++ R2).length + 1 := by rw [hsp]; simp; omega
          omega
      unfold wpOpIn
      rw [ho]
      simp only
      have hw := want_same (σ := σ) h hp hS (hanc i hi)
      rcases hc i him _ hp with ⟨hw1, hd⟩ | ⟨hw1, hd⟩
      · rw [hw1] at hw
        rw [hoe, if_pos (wantA_ok hw hr)]
        have hnd' : ∀ c, D[i].1.op ≠ .defer c := fun c hc' => by
          have := List.all_eq_true.1 hnd D[i].1 (List.mem_of_getElem? hop)
          unfold nDefer at this
          rw [hc'] at this; cases this
        have hstep := hd w B.X μ (σS σ D fun j => listed.getD j false).H a.eval hr.H (fun i ob hi => H_old i ob hi) (fun y hy => by rw [← ev_same h hp hS (hanc i hi) y hy]; exact hr.ev y)
        refine stepOk_wpIn hnd' hstep fun u w' ⟨hb, hres⟩ => ?_
        cases hN : D[i].2.N with
        | none =>
          rw [hN] at hres
          refine hnext _ _ μ (step_plain h hp hS hN hr hb hres) fun k p ob hk hN' hs' => ?_
          refine hun k p ob hk hN' ?_
          have : k ≠ i := by rintro rfl; rw [add_eq] at hs'; cases hs'
          rw [add_ne this] at hs'; exact hs'
        | some ob =>
          rw [hN] at hres
          obtain ⟨b, mb, cur, e1, e2, e3, e4, e5, e6⟩ := hres
          obtain ⟨μ', g1, g2⟩ := step_new h hp hS hN hr hun hb e1 e2 e3 e4 e5 e6
          exact hnext _ _ μ' g1 g2
      · rw [hw1] at hw
        rw [hoe, if_neg (by rw [wantA_ok hw hr]; simp)]
        refine ⟨fun f _ => fw_fn none f, ?_⟩
        have hN : D[i].2.N = none := by rw [hd]
        refine hnext _ _ μ (step_plain h hp hS hN hr (Below.refl _ _) (by rw [hd]; exact .lit _)) fun k p ob hk hN' hs' => ?_
        refine hun k p ob hk hN' ?_
        have : k ≠ i := by rintro rfl; rw [add_eq] at hs'; cases hs'
        rw [add_ne this] at hs'; exact hs'
theorem aw_drawL (hq : ∀ c σ, Q (.panic c) σ → False) (hm : P.follows .mixedOrders = true) {id : Nat} {l : List Oper} {σ : St} (m : Nat) (hok : okDL l m = true) (hnd : l.all nDefer = true)
    (h : AD P l σ (fun D => AL P none l Q (l.drop m) (σS σ D fun _ => true)) (l.take m) []) : AW P none (.region id l.toArray true) Q σ := by
  obtain ⟨ok, hL⟩ := okDL_spec hok
  have hml : m ≤ l.length := by have := ok.s.le; simpa using this
  -- the results, one after the other
  have key : ∀ (R : List Oper) (D0 : List (Oper × DR)), D0.length + R.length = m → (∀ (k : Nat) p, D0[k]? = some p → l[k]? = some p.1) → (∀ (j : Nat) o, R[j]? = some o → l[D0.length + j]? = some o) → AD P l σ (fun D => AL P none l Q (l.drop m) (σS σ D fun _ => true)) R D0 →
      ∃ E, (D0 ++ E).length = m ∧ (∀ (k : Nat) p, (D0 ++ E)[k]? = some p → l[k]? = some p.1) ∧ AL P none l Q (l.drop m) (σS σ (D0 ++ E) fun _ => true) ∧ ∀ k, D0.length ≤ k → k < m → CStep P l σ (D0 ++ E) k := by
    intro R
    induction R with
    | nil =>
      intro D0 hl h0 hR h
      exact ⟨[], by simpa using hl, by simpa using h0, by simpa [AD] using h, fun k hk hk' => by simp at hl; omega⟩
    | cons o R ih =>
      intro D0 hl h0 hR h
      simp only [AD] at h
      obtain ⟨d, hd, hrest⟩ := h
      obtain ⟨E, e1, e2, e3, e4⟩ := ih (D0 ++ [(o, d)]) (by simp at hl ⊢; omega) (fun k p hk => by
        by_cases hlt : k < D0.length
        · rw [List.getElem?_append_left hlt] at hk; exact h0 k p hk
        · rw [List.getElem?_append_right (by omega)] at hk
          have : k - D0.length = 0 := by have := (List.getElem?_eq_some_iff.1 hk).1; simp at this; omega
          rw [this] at hk
          simp at hk; subst hk
          have := hR 0 o rfl
          rw [show k = D0.length + 0 by omega]; exact this) (fun j o' hj => by
        have := hR (j + 1) o' (by simpa using hj)
        rw [← this]; congr 1; simp; omega) hrest
      refine ⟨(o, d) :: E, by simpa using e1, by simpa using e2, by simpa using e3, fun k hk hk' => ?_⟩
      rcases Nat.eq_or_lt_of_le hk with he | hlt
      · subst he
        intro p hp
        have hpe : p = (o, d) := by simpa using hp.symm
        subst hpe
        have hpre := slotsS_pre (txt D0.length) 0 D0 ((o, d) :: E) σ.s (fun j hj => by unfold txt; rw [Nat.blt_eq]; omega) (fun j hj => by
          unfold txt
          cases hb : Nat.blt (0 + j) D0.length with
          | false => rfl
          | true => rw [Nat.blt_eq] at hb; omega)
        have hslots : (σS σ (D0 ++ (o, d) :: E) (txt D0.length)).s = (σS σ D0 fun _ => true).s := hpre.1
        have hev : (σS σ (D0 ++ (o, d) :: E) (txt D0.length)).ev = (σS σ D0 fun _ => true).ev := by
          funext y
          cases y <;> simp only [St.ev, hslots]
        have hwant : wantA l (σS σ (D0 ++ (o, d) :: E) (txt D0.length)) o = wantA l (σS σ D0 fun _ => true) o := by
          unfold wantA; rw [hslots]
        have hidd : idD σ.H.length (D0 ++ (o, d) :: E) D0.length = σ.H.length + nNews D0 := by simp [idD]
        simp only
        rw [hwant, hev, hidd]
        exact hd
      · have := e4 k (by simp; omega) hk'
        simpa using this
  obtain ⟨E, e1, e2, e3, e4⟩ := key (l.take m) [] (by simp; omega) (fun k p hk => by simp at hk) (fun j o hj => by
    rw [List.getElem?_take] at hj
    split at hj
    · simpa using hj
    · cases hj) h
  simp only [List.nil_append] at e1 e2 e3 e4
  have hD : DOk l m E := ⟨ok, e1, e2⟩
  intro B μ a w hr
  refine wpIn_region_any hm ?_
  have hno : ∀ j, (Array.replicate l.toArray.size false).getD j false = false := fun j => by
    simp only [Array.getD_eq_getD_getElem?, Array.getElem?_replicate]
    split <;> rfl
  have hS0 : (fun j => (Array.replicate l.toArray.size false).getD j false) = fun _ => false := by funext j; exact hno j
  -- at the start nothing is made: the numbers are set aside
  have hslots0 : ∀ (D : List (Oper × DR)) (k : Nat) (s : List AV), slotsS (fun _ => false) k D s = s := by
    intro D
    induction D with
    | nil => intro k s; rfl
    | cons p D ih => intro k s; simp only [slotsS]; exact ih (k + 1) s
  have hun0 : Un μ σ.H.length E (fun _ => false) := fun k p ob hk hN _ => by
    cases hm : μ (idD σ.H.length E k) with
    | none => rfl
    | some l => have := hr.H.dom _ l hm; unfold idD at this; omega
  have hdead : ∀ (i : Nat) o, (newsS (fun _ => false) 0 E)[i]? = some o → o.st = 2 := fun i o hi => by
    obtain ⟨j, p, ob, _, _, _, h4⟩ := newsS_all _ 0 E i o hi
    rw [h4]
  have hr0 : SRel B μ (σS σ E fun _ => false) a w.drew := by
    have hoo : ∀ b, OO B.X (σ.H ++ newsS (fun _ => false) 0 E) μ b → OO B.X σ.H μ b := by
      rintro b (hx | ⟨i, o, m', hi, hs, hm'⟩)
      · exact .inl hx
      · by_cases hlt : i < σ.H.length
        · rw [List.getElem?_append_left hlt] at hi; exact .inr ⟨i, o, m', hi, hs, hm'⟩
        · rw [List.getElem?_append_right (by omega)] at hi
          have := hdead _ o hi; omega
    have up : ∀ {ν : Mu} {x : AV} {v : Value}, RV (OO B.X σ.H μ) w ν x v → RV (OO B.X (σ.H ++ newsS (fun _ => false) 0 E) μ) w.drew ν x v := fun {ν x v} hx => RV.mono (w := w) (w' := w.drew) (fun b _ hb => hoo b hb) (fun _ _ _ => rfl) hx ν fun _ _ h => h
    refine ⟨by simp only [σS, hslots0]; exact hr.size, fun t x v hx hv => ?_, ⟨fun i l hi => by simp only [σS, List.length_append]; have := hr.H.dom i l hi; omega, hr.H.inj, hr.H.lt, fun i o hi hs => ?_, hr.H.xlt, hr.H.gl.step (Nat.le_refl _) (fun _ _ _ _ => rfl) (fun _ h => .inl h) fun i b m h => .inl ⟨i, m, h⟩⟩, hr.df.step (Chg.drew _ _) (Ext.refl _ _) hr.H.lt, hr.chg.trans hr.ext (Chg.drew _ _), hr.ext, hr.nb, by simp only [σS, List.length_append]; have := hr.le; omega, fun k x v hk hx => up (hr.pres k x v hk hx)⟩
    · simp only [σS, hslots0] at hx
      exact up (hr.slot t x v hx hv)
    · simp only [σS] at hi
      by_cases hlt : i < σ.H.length
      · rw [List.getElem?_append_left hlt] at hi
        exact ObjAt.mono (w := w) (w' := w.drew) (fun b _ hb => hoo b hb) (fun _ _ _ => rfl) (fun _ _ h => h) (fun _ _ _ => rfl) (hr.H.obj i o hi hs)
      · rw [List.getElem?_append_right (by omega)] at hi
        have := hdead _ o hi; omega
  refine draw_anyL hL hq hD hnd (fun k hk => e4 k (by simp) hk) e3 l.toArray.size _ a w.drew μ (by simp) (fun i hi => by rw [hno] at hi; cases hi) (fun j _ => hno j) ?_ (by rw [hS0]; exact hr0) (by rw [hS0]; exact hun0)
  have hfil : (List.range m).filter (fun j => !(Array.replicate l.toArray.size false).getD j true) = List.range m := by
    rw [List.filter_eq_self]
    intro j hj
    have := List.mem_range.1 hj
    simp [Array.getD_eq_getD_getElem?, Array.getElem?_replicate, show j < l.length by omega]
  rw [hfil, List.length_range]
  simp; omega
theorem aw_drawrL (hq : ∀ c σ, Q (.panic c) σ → False) (hm : P.follows .mixedOrders = true) {id : Nat} {l : List Oper} {σ : St} (m : Nat) (hok : okDL l m = true) (hnd : l.all nDefer = true) (h : ADr P none l Q m σ (l.take m) σ) : AW P none (.region id l.toArray true) Q σ :=
  aw_drawL hq hm m hok hnd (h [] (by simp [σS, slotsS, newsS]))
/-! no way out by a panic -/
class NoPanic (Q : Exit → St → Prop) : Prop where
  no : ∀ c σ, Q (.panic c) σ → False
instance noPanic_ret {tab : Tab} {rs : List ResultVar} {K : AV → List AObj → List Nat → Prop} : NoPanic (RetP tab rs K) := ⟨fun _ _ h => h⟩
instance noPanic_then {n : St → Prop} {Q : Exit → St → Prop} [h : NoPanic Q] : NoPanic (Then n Q) := ⟨fun c σ hq => h.no c σ hq⟩
instance noPanic_block {id : Nat} {Q : Exit → St → Prop} [h : NoPanic Q] : NoPanic (InBlock id Q) := ⟨fun c σ hq => h.no c σ hq⟩
end
end Go.Proofs.YthdckgcalooipaaDoor
namespace Go.Proofs.YthdckgcalooipaaDoor
section
open Go.RowKit
set_option linter.unusedVariables false
set_option linter.unusedSimpArgs false
set_option linter.unusedSectionVars false
variable {P : Program} {tab : Tab} {r : Option Nat} {Q : Exit → St → Prop}
theorem oper_monoP {F : Fence} {n : Nat} {o : Oper} {a : Act} {w : World} {K K' : Act → World → Prop} {Q Q' : Exit → Act → World → Prop} (hq : ∀ e a w, e ≠ .normal → Q e a w → Q' e a w) (h : ∀ a w, K a w → K' a w) (hh : o.wpIn F n P a w K Q) : o.wpIn F n P a w K' Q' := by
  unfold Oper.wpIn at *
  refine ⟨hh.1, ?_⟩
  have hh := hh.2
  have hlo : LetsOut Q → LetsOut Q' := fun ⟨a, w, h⟩ => ⟨a, w, hq _ _ _ (by simp) h⟩
  generalize (o.semAt F.round a.eval).run P w = r at *
  cases r with
  | ok x w' =>
    cases x <;> simp only [Oper.uponIn] at hh ⊢ <;>
      first
        | exact h _ _ hh
        | exact ⟨hh.1, CallsIn.mono hh.2 (fun e w'' he => by cases e <;> first | exact h _ _ he | exact hq _ _ _ (by simp) he | exact hlo he)⟩
        | exact ⟨hh.1, RowsIn.mono hh.2 (fun _ _ he => h _ _ he)⟩
        | exact ⟨hh.1, RoundIn.mono hh.2 (fun e w'' he => by cases e <;> first | exact h _ _ he | exact hq _ _ _ (by simp) he | exact hlo he)⟩
  | halt x w' => cases x <;> simp only [Oper.uponIn] at hh ⊢ <;> first | exact hh | exact hq _ _ _ (by simp) hh
theorem wpAnyIn_monoQ {F : Fence} {n : Nat} {md : Region.Mode} {ops : Array Oper} {Q Q' : Exit → Act → World → Prop} (hq : ∀ e a w, Q e a w → Q' e a w) : ∀ {f : Nat} {ls : Array Bool} {a : Act} {w : World}, wpAnyIn F n P md ops Q f ls a w → wpAnyIn F n P md ops Q' f ls a w
  | 0, ls, a, w, h => ⟨h.1, hq _ _ _ h.2⟩
  | f + 1, ls, a, w, h => by
    refine ⟨fun he => hq _ _ _ (h.1 he), fun i hi => ?_⟩
    have := h.2 i hi
    unfold wpOpIn at this ⊢
    split
    · rename_i hn; rw [hn] at this; exact wpAnyIn_monoQ hq this
    · rename_i o ho
      rw [ho] at this
      simp only at this
      split
      · rename_i hw; rw [if_pos hw] at this; exact oper_monoQ hq (fun _ _ h => wpAnyIn_monoQ hq h) this
      · rename_i hw; rw [if_neg hw] at this; exact ⟨this.1, wpAnyIn_monoQ hq this.2⟩
/-- Operations that are ready, each of them next. -/
def AO (P : Program) (r : Option Nat) (l : List Oper) (Q : Exit → St → Prop) : Nat → List Bool → St → Prop
  | 0, ls, σ => Region.ready .any l.toArray ls.toArray = [] ∧ Q .normal σ
  | f + 1, ls, σ => (Region.ready .any l.toArray ls.toArray = [] → Q .normal σ) ∧ ∀ i ∈ Region.ready .any l.toArray ls.toArray, ∀ o, l[i]? = some o → AL P r l (Then (AO P r l Q f (ls.set i true)) Q) [o] σ
theorem SRel.drew {B : Base P} {μ : Mu} {σ : St} {a : Act} {w : World} (hr : SRel B μ σ a w) : SRel B μ σ a w.drew := by
  have up : ∀ {ν : Mu} {x : AV} {v : Value}, RV (OO B.X σ.H μ) w ν x v → RV (OO B.X σ.H μ) w.drew ν x v := fun {ν x v} hx => RV.mono (w := w) (w' := w.drew) (fun b _ hb => hb) (fun _ _ _ => rfl) hx ν fun _ _ h => h
  exact ⟨hr.size, fun t x v hx hv => up (hr.slot t x v hx hv), ⟨hr.H.dom, hr.H.inj, hr.H.lt, fun i o hi hs => ObjAt.mono (w := w) (w' := w.drew) (fun b _ hb => hb) (fun _ _ _ => rfl) (fun _ _ h => h) (fun _ _ _ => rfl) (hr.H.obj i o hi hs), hr.H.xlt, hr.H.gl.step (w' := w.drew) (Nat.le_refl _) (fun _ _ _ _ => rfl) (fun _ h => .inl h) fun i b m h => .inl ⟨i, m, h⟩⟩, hr.df.step (Chg.drew _ _) (Ext.refl _ _) hr.H.lt, hr.chg.trans hr.ext (Chg.drew _ _), hr.ext, hr.nb, hr.le, fun k x v hk hx => up (hr.pres k x v hk hx)⟩
theorem ao_sound {l : List Oper} : ∀ (f : Nat) (ls : List Bool) (σ : St) (B : Base P) (μ : Mu) (a : Act) (w : World), AO P r l Q f ls σ → SRel B μ σ a w → wpAnyIn (fw r) 0 P .any l.toArray (Post B Q) f ls.toArray a w
  | 0, ls, σ, B, μ, a, w, h, hr => ⟨h.1, σ, h.2, hr.sx⟩
  | f + 1, ls, σ, B, μ, a, w, h, hr => by
    refine ⟨fun he => ⟨σ, h.1 he, hr.sx⟩, fun i hi => ?_⟩
    obtain ⟨_, o, ho, _⟩ := mem_ready.1 hi
    have hl : l[i]? = some o := by simpa using ho
    have := h.2 i hi o hl B μ a w hr
    have hp : ∀ e a w, e ≠ .normal → Post B (Then (AO P r l Q f (ls.set i true)) Q) e a w → Post B Q e a w := fun e a w hne ⟨σ', h1, h2⟩ => ⟨σ', by cases e <;> first | exact absurd rfl hne | exact h1, h2⟩
    have hk : ∀ a' w', wpListIn (fw r) 0 P l.toArray (Post B (Then (AO P r l Q f (ls.set i true)) Q)) [] a' w' → wpAnyIn (fw r) 0 P .any l.toArray (Post B Q) f (ls.toArray.setIfInBounds i true) a' w' := by
      rintro a' w' ⟨σ', h1, μ', X', hg, h3⟩
      have e : ls.toArray.setIfInBounds i true = (ls.set i true).toArray := by simp
      rw [e]
      exact wpAnyIn_monoQ (fun e a w h => h.trans hg) (ao_sound f _ σ' (B.at_ X') μ' a' w' h1 h3)
    unfold wpOpIn
    rw [ho]
    unfold wpListIn at this
    simp only
    split
    · rename_i hw; rw [if_pos hw] at this; exact oper_monoP hp hk this
    · rename_i hw; rw [if_neg hw] at this; exact ⟨this.1, hk _ _ this.2⟩
theorem aw_orders (hm : P.follows .mixedOrders = true) {id : Nat} {l : List Oper} {b : Bool} (hb : b = true) {σ : St} (h : AO P r l Q l.length (List.replicate l.length false) σ) : AW P r (.region id l.toArray b) Q σ := by
  subst hb
  intro B μ a w hr
  refine wpIn_region_any hm ?_
  have := ao_sound l.length _ σ B μ a w.drew h hr.drew
  simpa using this
/-- Each operation that is ready, next. -/
def EachR (P : Program) (r : Option Nat) (l : List Oper) (Q : Exit → St → Prop) (f : Nat) (ls : List Bool) (σ : St) : Nat → List Oper → Prop
  | _, [] => True
  | k, o :: R => ((Region.ready .any l.toArray ls.toArray).contains k = true → AL P r l (Then (AO P r l Q f (ls.set k true)) Q) [o] σ) ∧ EachR P r l Q f ls σ (k + 1) R
theorem eachR_at {l : List Oper} {f : Nat} {ls : List Bool} {σ : St} : ∀ (R : List Oper) (k : Nat), EachR P r l Q f ls σ k R → ∀ (j : Nat) o, R[j]? = some o → (Region.ready .any l.toArray ls.toArray).contains (k + j) = true → AL P r l (Then (AO P r l Q f (ls.set (k + j) true)) Q) [o] σ
  | [], k, _, j, o, hj, _ => by simp at hj
  | o' :: R, k, h, 0, o, hj, hc => by simp at hj; subst hj; exact h.1 hc
  | o' :: R, k, h, j + 1, o, hj, hc => by
    have := eachR_at R (k + 1) h.2 j o (by simpa using hj)
    rw [show k + 1 + j = k + (j + 1) by omega] at this
    exact this hc
theorem ev_skip {l : List Oper} {f : Nat} {ls : List Bool} {σ : St} {k : Nat} {o : Oper} {R : List Oper} (h : (Region.ready .any l.toArray ls.toArray).contains k = false) (next : EachR P r l Q f ls σ (k + 1) R) : EachR P r l Q f ls σ k (o :: R) := ⟨fun hc => (by rw [h] at hc; cases hc), next⟩
theorem ev_take {l : List Oper} {f : Nat} {ls : List Bool} {σ : St} {k : Nat} {o : Oper} {R : List Oper} (h : AL P r l (Then (AO P r l Q f (ls.set k true)) Q) [o] σ) (next : EachR P r l Q f ls σ (k + 1) R) : EachR P r l Q f ls σ k (o :: R) := ⟨fun _ => h, next⟩
theorem ev_nil {l : List Oper} {f : Nat} {ls : List Bool} {σ : St} {k : Nat} : EachR P r l Q f ls σ k [] := trivial
theorem ao_node {l : List Oper} {f : Nat} {ls : List Bool} {σ : St} (hne : (Region.ready .any l.toArray ls.toArray).isEmpty = false) (h : EachR P r l Q f ls σ 0 l) : AO P r l Q (f + 1) ls σ := by
  unfold AO
  exact ⟨fun he => (by rw [he] at hne; cases hne), fun i hi o ho => by
    have := eachR_at l 0 h i o ho (by simpa using hi)
    simpa using this⟩
theorem ao_end {l : List Oper} {f : Nat} {ls : List Bool} {σ : St} (hr : Region.ready .any l.toArray ls.toArray = []) (h : Q .normal σ) : AO P r l Q f ls σ := by
  cases f with
  | zero => exact ⟨hr, h⟩
  | succ f => exact ⟨fun _ => h, by rw [hr]; intro i hi; cases hi⟩
theorem then_ao {l : List Oper} {f : Nat} {ls : List Bool} {Q' : Exit → St → Prop} {σ : St} (h : AO P r l Q f ls σ) : Then (AO P r l Q f ls) Q' .normal σ := h
end
end Go.Proofs.YthdckgcalooipaaDoor
namespace Go.Proofs.YthdckgcalooipaaDoor
section
open Go.RowKit
set_option linter.unusedVariables false
set_option linter.unusedSimpArgs false
set_option linter.unusedSectionVars false
variable {P : Program} {tab : Tab} {r : Option Nat} {l R : List Oper} {Q : Exit → St → Prop} {σ σ' : St} {o : Oper} {m : Nat}
/-- What a bool says. -/
class BoolP (b : Bool) (p : outParam Prop) : Prop where
  iff : b = true ↔ p
instance (priority := low) boolP_var (b : Bool) : BoolP b (b = true) := ⟨Iff.rfl⟩
instance boolP_dec (p : Prop) [h : Decidable p] : BoolP (decide p) p := ⟨decide_eq_true_iff⟩
instance boolP_beqI (a b : Int) : BoolP (a == b) (a = b) := ⟨beq_iff_eq⟩
instance boolP_bneI (a b : Int) : BoolP (a != b) (a ≠ b) := ⟨bne_iff_ne⟩
instance boolP_beqB (a b : List UInt8) : BoolP (a == b) (a = b) := ⟨beq_iff_eq⟩
instance boolP_beqC (a b : Bool) : BoolP (a == b) (a = b) := ⟨beq_iff_eq⟩
instance boolP_not (b : Bool) (p : Prop) [h : BoolP b p] : BoolP (!b) (¬ p) := ⟨by rw [← h.iff]; cases b <;> simp⟩
instance boolP_and (a b : Bool) (p q : Prop) [h : BoolP a p] [h' : BoolP b q] : BoolP (a && b) (p ∧ q) := ⟨by rw [← h.iff, ← h'.iff]; simp⟩
instance boolP_or (a b : Bool) (p q : Prop) [h : BoolP a p] [h' : BoolP b q] : BoolP (a || b) (p ∨ q) := ⟨by rw [← h.iff, ← h'.iff]; simp⟩
theorem BoolP.no {b : Bool} {p : Prop} (h : BoolP b p) : b = false ↔ ¬ p := by rw [← h.iff]; cases b <;> simp
theorem aw_if {c : Operand} {x y : Code} {b : Bool} {p : Prop} (hc : σ.ev c = .lit (.bool b)) [hb : BoolP b p] (ht : p → AW P r x Q σ) (hf : ¬ p → AW P r y Q σ) : AW P r (.cond c x y) Q σ :=
  aw_cond hc (fun h => ht (hb.iff.1 h)) (fun h => hf (hb.no.1 h))
theorem aw_ift {c : Operand} {x y : Code} {b : Bool} {p : Prop} (hc : σ.ev c = .lit (.bool b)) [hb : BoolP b p] (hp : p) (ht : AW P r x Q σ) : AW P r (.cond c x y) Q σ :=
  aw_if hc (fun _ => ht) (fun h => (h hp).elim)
theorem aw_iff {c : Operand} {x y : Code} {b : Bool} {p : Prop} (hc : σ.ev c = .lit (.bool b)) [hb : BoolP b p] (hp : ¬ p) (hf : AW P r y Q σ) : AW P r (.cond c x y) Q σ :=
  aw_if hc (fun h => (hp h).elim) (fun _ => hf)
/-- The slot on which an operation's guard looks. -/
def gslot (l : List Oper) (o : Oper) : Option Nat :=
  match o.guard with
  | some (j, _) => match nth l j with
    | some oj => oj.dst
    | none => none
  | none => none
theorem setn_self {α : Type} : ∀ {l : List α} {n : Nat} {y : α}, nth l n = some y → setn l n y = l
  | [], _, _, h => by cases h
  | x :: l, 0, y, h => by simp only [nth, Option.some.injEq] at h; rw [setn, h]
  | x :: l, n + 1, y, h => by rw [setn, setn_self (l := l) h]
theorem al_if {t : Nat} {b : Bool} {p : Prop} (hg : gslot l o = some t) (hs : nth σ.s t = some (.lit (.bool b))) [hb : BoolP b p] (ht : p → AL P r l Q (o :: R) ⟨setn σ.s t (.lit (.bool true)), σ.H, σ.fg, σ.nb⟩)
    (hf : ¬ p → AL P r l Q (o :: R) ⟨setn σ.s t (.lit (.bool false)), σ.H, σ.fg, σ.nb⟩) : AL P r l Q (o :: R) σ := by
  cases hv : b with
  | true => subst hv; have := ht (hb.iff.1 rfl); rwa [setn_self hs] at this
  | false => subst hv; have := hf (hb.no.1 rfl); rwa [setn_self hs] at this
theorem ad_if {t : Nat} {b : Bool} {p : Prop} (hg : gslot l o = some t) (hs : nth σ'.s t = some (.lit (.bool b))) [hb : BoolP b p] (ht : p → ADr P r l Q m σ (o :: R) ⟨setn σ'.s t (.lit (.bool true)), σ'.H, σ'.fg, σ'.nb⟩)
    (hf : ¬ p → ADr P r l Q m σ (o :: R) ⟨setn σ'.s t (.lit (.bool false)), σ'.H, σ'.fg, σ'.nb⟩) : ADr P r l Q m σ (o :: R) σ' := by
  cases hv : b with
  | true => subst hv; have := ht (hb.iff.1 rfl); rwa [setn_self hs] at this
  | false => subst hv; have := hf (hb.no.1 rfl); rwa [setn_self hs] at this
theorem al_litt {t : Nat} (hg : gslot l o = some t) (hs : nth σ.s t = some (.lit (.bool true))) (h : AL P r l Q (o :: R) σ) : AL P r l Q (o :: R) σ := h
theorem al_litf {t : Nat} (hg : gslot l o = some t) (hs : nth σ.s t = some (.lit (.bool false))) (h : AL P r l Q (o :: R) σ) : AL P r l Q (o :: R) σ := h
theorem ad_litt {t : Nat} (hg : gslot l o = some t) (hs : nth σ'.s t = some (.lit (.bool true))) (h : ADr P r l Q m σ (o :: R) σ') : ADr P r l Q m σ (o :: R) σ' := h
theorem ad_litf {t : Nat} (hg : gslot l o = some t) (hs : nth σ'.s t = some (.lit (.bool false))) (h : ADr P r l Q m σ (o :: R) σ') : ADr P r l Q m σ (o :: R) σ' := h
theorem al_ift {t : Nat} {b : Bool} {p : Prop} (hg : gslot l o = some t) (hs : nth σ.s t = some (.lit (.bool b))) [hb : BoolP b p] (hp : p) (ht : AL P r l Q (o :: R) ⟨setn σ.s t (.lit (.bool true)), σ.H, σ.fg, σ.nb⟩) : AL P r l Q (o :: R) σ := al_if hg hs (fun _ => ht) (fun h => (h hp).elim)
theorem al_iff {t : Nat} {b : Bool} {p : Prop} (hg : gslot l o = some t) (hs : nth σ.s t = some (.lit (.bool b))) [hb : BoolP b p] (hp : ¬ p) (ht : AL P r l Q (o :: R) ⟨setn σ.s t (.lit (.bool false)), σ.H, σ.fg, σ.nb⟩) : AL P r l Q (o :: R) σ := al_if hg hs (fun h => (hp h).elim) (fun _ => ht)
theorem ad_ift {t : Nat} {b : Bool} {p : Prop} (hg : gslot l o = some t) (hs : nth σ'.s t = some (.lit (.bool b))) [hb : BoolP b p] (hp : p) (ht : ADr P r l Q m σ (o :: R) ⟨setn σ'.s t (.lit (.bool true)), σ'.H, σ'.fg, σ'.nb⟩) : ADr P r l Q m σ (o :: R) σ' := ad_if hg hs (fun _ => ht) (fun h => (h hp).elim)
theorem ad_iff {t : Nat} {b : Bool} {p : Prop} (hg : gslot l o = some t) (hs : nth σ'.s t = some (.lit (.bool b))) [hb : BoolP b p] (hp : ¬ p) (ht : ADr P r l Q m σ (o :: R) ⟨setn σ'.s t (.lit (.bool false)), σ'.H, σ'.fg, σ'.nb⟩) : ADr P r l Q m σ (o :: R) σ' := ad_if hg hs (fun h => (hp h).elim) (fun _ => ht)
/-- A slot's bool, known otherwise. -/
theorem ad_eq {σ'' : St} (h : σ' = σ'') (n : ADr P r l Q m σ R σ'') : ADr P r l Q m σ R σ' := h ▸ n
/-! a region that draws its order, all of it -/
theorem aw_drawall (hm : P.follows .mixedOrders = true) {id : Nat} {l : List Oper} {b : Bool} (hb : b = true) (hok : okD l l.length = true) (hnd : l.all nDefer = true) (h : ADr P r l Q l.length σ l σ) : AW P r (.region id l.toArray b) Q σ := by
  subst hb
  exact aw_drawr hm l.length hok hnd (by rwa [List.take_length])
theorem ad_endall (h : AL P r l Q [] σ') : ADr P r l Q l.length σ [] σ' := ad_end (by rwa [List.drop_length])
/-- The first operations, as far as none of them writes. -/
def isDraw : Op → Bool
  | .store .. => false
  | .call c => match c.callee with | .builtin .append => false | _ => true
  | _ => true
def takeD : List Oper → List Oper
  | [] => []
  | o :: l => bif isDraw o.op then o :: takeD l else []
def dropD : List Oper → List Oper
  | [] => []
  | o :: l => bif isDraw o.op then dropD l else o :: l
theorem takeD_take : ∀ l : List Oper, l.take (takeD l).length = takeD l
  | [] => rfl
  | o :: l => by rw [takeD]; cases isDraw o.op <;> simp [takeD_take l]
theorem dropD_drop : ∀ l : List Oper, l.drop (takeD l).length = dropD l
  | [] => rfl
  | o :: l => by rw [takeD, dropD]; cases isDraw o.op <;> simp [dropD_drop l]
theorem aw_drawp (hm : P.follows .mixedOrders = true) {id : Nat} {l : List Oper} {b : Bool} (hb : b = true) (hok : okD l (takeD l).length = true) (hnd : l.all nDefer = true) (h : ADr P r l Q (takeD l).length σ (takeD l) σ) : AW P r (.region id l.toArray b) Q σ := by
  subst hb
  exact aw_drawr hm (takeD l).length hok hnd (by rwa [takeD_take])
theorem aw_drawpL {Q : Exit → St → Prop} [np : NoPanic Q] (hm : P.follows .mixedOrders = true) {id : Nat} {l : List Oper} {b : Bool} (hb : b = true) (hok : okDL l (takeD l).length = true) (hnd : l.all nDefer = true) (h : ADr P none l Q (takeD l).length σ (takeD l) σ) : AW P none (.region id l.toArray b) Q σ := by
  subst hb
  exact aw_drawrL np.no hm (takeD l).length hok hnd (by rwa [takeD_take])
theorem ad_endp (h : AL P r l Q (dropD l) σ') : ADr P r l Q (takeD l).length σ [] σ' := ad_end (by rwa [dropD_drop])
/-! slots that code writes -/
def dstsL : List Oper → List Nat
  | [] => []
  | o :: r => match o.dst with | some d => d :: dstsL r | none => dstsL r
def wrC : Code → List Nat
  | .region _ ops _ => dstsL ops.toList
  | .seq a b => wrC a ++ wrC b
  | .cond _ a b => wrC a ++ wrC b
  | .block _ b => wrC b
  | .loop b => wrC b
  | .scope b => wrC b
  | .rangeFunc _ ps a b => ps.toList ++ wrC a ++ wrC b
  | _ => []
theorem aw_loopA {c : Code} {ι : Type} {s : List AV} {H0 : List AObj} {fg : List Nat} {nb : YB} {ws : List Nat} (hws : wrC c = ws) (g : ι → List (Nat × AV)) (Hs : ι → List AObj) (m : ι → Nat) (i0 : ι) (h0 : Tells ⟨s, H0, fg, nb⟩ (lst s fg nb ws (g i0) (Hs i0)))
    (round : ∀ i, AW P r c (Then (fun σ' => ∃ j, m j < m i ∧ Tells σ' (lst s fg nb ws (g j) (Hs j))) Q) (lst s fg nb ws (g i) (Hs i))) : AW P r (.loop c) Q ⟨s, H0, fg, nb⟩ := aw_loopw ws g Hs m i0 h0 round
/-- Where branches meet. -/
theorem aw_joinw {x y : Code} {Q' : Exit → St → Prop} {s : List AV} {H0 : List AObj} {fg : List Nat} {nb : YB} {ws : List Nat} (hws : wrC x = ws) (g : List (Nat × AV)) (H1 : List AObj)
    (h1 : AW P r x (Then (fun σ' => Tells σ' (lst s fg nb ws g H1)) Q') ⟨s, H0, fg, nb⟩) (h2 : AW P r y Q (lst s fg nb ws g H1)) : AW P r x (Then (AW P r y Q) Q') ⟨s, H0, fg, nb⟩ :=
  h1.mono fun e σ' h => by
    cases e <;> first | exact aw_tell h h2 | exact h
/-! a row that a function makes, read as data -/
theorem APure.data {f : FuncId} {args : List AV} {x y : AV} {N : List AObj} {q : Prop} {used : List Nat} (h : APure P f args x N) (ht : thaw N 4 x = some (q, y, used)) (hq : q) : APure P f args y [] := by
  intro w X μ vs hH hv
  refine (h w X μ vs hH hv).mono fun e w' he => ?_
  obtain ⟨v, r', H', fg, μ', e1, ⟨rfl, rfl⟩, g1, g2, g3, g4, g5, g6⟩ := he
  refine ⟨v, y, [], [], noMu, e1, ⟨rfl, rfl⟩, ⟨fun i l h => (by cases h), fun i j b m m' h => (by cases h), fun i b m h => (by cases h), fun i o h => (by simp at h), g1.xlt, g1.gl.sub fun b ⟨i, m, h⟩ => (by cases h)⟩, ?_, g3, fun i b m h => (by cases h), Nat.le_refl _, fun k x u hk hx => ?_⟩
  · refine (thaw_rv g1 4 ht hq g2).mono (fun b _ hb => ⟨?_, fun i hi m hm => ?_⟩) (fun _ _ _ => rfl) _ fun _ _ h => by cases h
    · rcases hb with hb | ⟨i, o, m, hi, _⟩
      · exact .inl hb
      · simp at hi
    · rcases hb with hb | ⟨i', o, m', hi', _⟩
      · exact (g1.lt i b m hm).2 hb
      · simp at hi'
  · have hk0 : k = 0 := by simpa using hk
    subst hk0
    have e0 : ∀ μ : Mu, upto 0 μ = noMu := fun μ => by funext i; simp [upto, noMu]
    rw [e0] at hx ⊢
    have hno : ∀ i, μ i = none := fun i => by
      cases hm : μ i with
      | none => rfl
      | some l => have := hH.dom i l hm; simp at this
    have := hx.mono (O' := OO X [] noMu) (w' := w') (fun b _ hb => hb.imp id fun ⟨i, o, m, hi, _⟩ => (by simp at hi)) (fun b hb _ => g3.block b hb fun i m hi => by rw [hno] at hi; cases hi) noMu fun _ _ h => h
    exact this
/-! lists in memory -/
variable {α : Type}
structure Enc (α : Type) where
  sz : Nat
  z : α
  enc : α → List AV
section
variable {α : Type} {e : Enc α}
abbrev fE (e : Enc α) (xs : List α) : Nat → List AV := fun k => e.enc (xs.getD k e.z)
abbrev slE (e : Enc α) (xs : List α) : AV := .sl e.sz xs.length false (fE e xs)
theorem fE_app {xs ys : List α} {n k : Nat} (hn : n = xs.length) (hk : k < n + ys.length) : fE e (xs ++ ys) k = appF n (fE e xs) (fE e ys) k := by
  subst hn
  unfold fE
  by_cases h : k < xs.length
  · rw [appF_lt h]; simp [List.getD_eq_getElem?_getD, List.getElem?_append_left h]
  · rw [appF_ge (by omega)]; simp [List.getD_eq_getElem?_getD, List.getElem?_append_right (show xs.length ≤ k by omega)]
theorem fE_snoc {xs : List α} {y : α} {g : Nat → List AV} {n k : Nat} (hn : n = xs.length) (hg : g 0 = e.enc y) (hk : k < n + 1) : fE e (xs ++ [y]) k = appF n (fE e xs) g k := by
  rw [fE_app hn (by simpa using hk)]
  by_cases h : k < n
  · rw [appF_lt h, appF_lt h]
  · rw [appF_ge (by omega), appF_ge (by omega)]
    have : k - n = 0 := by omega
    rw [this, hg]; rfl
theorem fE_lit {xs : List α} {css : List (List AV)} (h : css = xs.map e.enc) {k : Nat} (hk : k < xs.length) : fE e xs k = getC css k := by
  subst h
  simp [fE, getC, nth_eq, List.getD_eq_getElem?_getD, List.getElem?_eq_getElem hk]
theorem fE_lits {xs ys : List α} {css : List (List AV)} {n m k : Nat} (h : css = ys.map e.enc) (hn : n = xs.length) (hm : m = ys.length) (hk : k < n + m) : fE e (xs ++ ys) k = appF n (fE e xs) (getC css) k := by
  subst hm
  rw [fE_app hn hk]
  by_cases hlt : k < n
  · rw [appF_lt hlt, appF_lt hlt]
  · rw [appF_ge (by omega), appF_ge (by omega), fE_lit h (by omega)]
end
theorem AV.Le.bool {a b : Bool} (h : a = b) : AV.Le (.lit (.bool a)) (.lit (.bool b)) := .lit (by rw [h])
theorem thawL_id {th : AV → Option (Prop × AV × List Nat)} : ∀ {l : List AV}, (∀ a ∈ l, ∃ q, th a = some (q, a, []) ∧ q) → ∃ q, thawL th l = some (q, l, []) ∧ q
  | [], _ => ⟨True, rfl, trivial⟩
  | a :: l, h => by
    obtain ⟨q, h1, h2⟩ := h a (List.mem_cons_self ..)
    obtain ⟨q', h3, h4⟩ := thawL_id (l := l) fun x hx => h x (List.mem_cons_of_mem _ hx)
    exact ⟨q ∧ q', by rw [thawL, h1, h3]; rfl, h2, h4⟩
theorem thaw_id (H : List AObj) : ∀ (n : Nat) {a : AV}, idfree n a = true → ∃ q, thaw H n a = some (q, a, []) ∧ q
  | 0, a, h => by cases h
  | n + 1, a, h => by
    cases a with
    | row => cases h
    | ptr => cases h
    | junk => exact ⟨True, rfl, trivial⟩
    | lit => exact ⟨True, rfl, trivial⟩
    | arr => exact ⟨True, rfl, trivial⟩
    | sl => exact ⟨True, rfl, trivial⟩
    | ip => exact ⟨True, rfl, trivial⟩
    | agg cs =>
      obtain ⟨q, h1, h2⟩ := thawL_id (th := thaw H n) (l := cs) fun x hx => thaw_id H n (List.all_eq_true.1 h x hx)
      exact ⟨q, by rw [thaw, h1], h2⟩
    | tup cs =>
      obtain ⟨q, h1, h2⟩ := thawL_id (th := thaw H n) (l := cs) fun x hx => thaw_id H n (List.all_eq_true.1 h x hx)
      exact ⟨q, by rw [thaw, h1], h2⟩
    | fn f xs ys =>
      rw [idfree, Bool.and_eq_true] at h
      obtain ⟨q, h1, h2⟩ := thawL_id (th := thaw H n) (l := xs) fun x hx => thaw_id H n (List.all_eq_true.1 h.1 x hx)
      obtain ⟨q', h3, h4⟩ := thawL_id (th := thaw H n) (l := ys) fun x hx => thaw_id H n (List.all_eq_true.1 h.2 x hx)
      exact ⟨q ∧ q', by rw [thaw, h1, h3]; rfl, h2, h4⟩
    | iface t x =>
      obtain ⟨q, h1, h2⟩ := thaw_id H n (a := x) h
      exact ⟨q, by rw [thaw, h1], h2⟩
theorem share_none : ∀ (k : Nat) (l : List AObj), share [] k l = l
  | _, [] => rfl
  | k, o :: l => by rw [share, share_none]; rfl
theorem idfree_up : ∀ (n : Nat) {a : AV}, idfree n a = true → idfree (n + 1) a = true
  | 0, a, h => by cases h
  | n + 1, a, h => by
    cases a with
    | row => cases h
    | ptr => cases h
    | junk | lit | arr | sl | ip => rfl
    | agg cs | tup cs => exact List.all_eq_true.2 fun x hx => idfree_up n (List.all_eq_true.1 h x hx)
    | fn f xs ys =>
      rw [idfree, Bool.and_eq_true] at h ⊢
      exact ⟨List.all_eq_true.2 fun x hx => idfree_up n (List.all_eq_true.1 h.1 x hx), List.all_eq_true.2 fun x hx => idfree_up n (List.all_eq_true.1 h.2 x hx)⟩
    | iface t x => exact idfree_up n (a := x) h
theorem idfrees_up {n : Nat} {l : List AV} (h : l.all (idfree n) = true) : l.all (idfree (n + 1)) = true := List.all_eq_true.2 fun x hx => idfree_up n (List.all_eq_true.1 h x hx)
theorem LeS.id {a b : List AV} (h : LeS a b) : LeS a b := h
theorem LeS.app : ∀ {a b : List AV} (c : List AV), LeS a b → LeS (a ++ c) (b ++ c)
  | _, _, c, .nil => LeS.refl c
  | _, _, c, .cons h hs => .cons h (LeS.app c hs)
/-- A call whose arguments name nothing of one's own. -/
theorem al_pci (hw : wantA l σ o = some true) {fo : Operand} {ao : List Operand} {ts : Array TypeId} (ho : o.op = .call { callee := .value fo, args := ao.toArray, argTypes := ts }) {f : FuncId} {fa ca : List AV} (hf : σ.ev fo = .fn (.func f) fa ca) (hg : GoFn P f)
    (hid : (fa ++ ao.map σ.ev).all (idfree 4) = true) (hic : ca.all (idfree 4) = true) {args'' : List AV} {x : AV} {N : List AObj} (h : APure P f (args'' ++ ca) x N) (hl : LeS (fa ++ ao.map σ.ev) args'')
    (next : AL P r l Q R (St.put ⟨σ.s, σ.H ++ N.map (renObj (sh σ.H.length)), σ.fg, σ.nb⟩ o.dst (ren (sh σ.H.length) 4 x))) : AL P r l Q (o :: R) σ := by
  obtain ⟨q, h1, h2⟩ := thawL_id (th := thaw σ.H 4) (l := fa ++ ao.map σ.ev ++ ca) fun x hx => thaw_id σ.H 4 (by
    rcases List.mem_append.1 hx with hx | hx
    · exact List.all_eq_true.1 hid x hx
    · exact List.all_eq_true.1 hic x hx)
  exact al_pc hw ho hf hg h1 h2 (h.le (hl.app ca)) (by rw [share_none]; exact next)
theorem LeS.rvs {O : Nat → Prop} {w : World} {μ : Mu} {a b : List AV} (h : LeS a b) {vs : List Value} (hv : RVs O w μ a vs) : RVs O w μ b vs :=
  ⟨h.len ▸ hv.1, fun j y v hy hj => by
    obtain ⟨x, hx, hl⟩ := h.at_ hy
    exact hl _ _ _ _ (hv.2 j x v hx hj)⟩
theorem AV.Le.agg {cs ds : List AV} (h : LeS cs ds) : AV.Le (.agg cs) (.agg ds) := fun O w μ v hv => by
  cases hv with
  | agg h1 h2 =>
    have := h.rvs (show RVs O w μ cs _ from ⟨h1, h2⟩)
    exact .agg this.1 this.2
theorem AV.Le.ip {cs ds : List AV} (h : LeS cs ds) : AV.Le (.ip cs) (.ip ds) := fun O w μ v hv => by
  cases hv with
  | ip h1 h2 hg hl hA =>
    have := h.rvs (show RVs O w noMu cs _ from ⟨h1, h2⟩)
    exact .ip this.1 this.2 hg hl hA
theorem ObjLe.les {T sz n n' st : Nat} {f f' : Nat → List AV} {p bx bx' : Bool} (hn : n' ≤ n) (h : ∀ k, k < n' → LeS (f k) (f' k)) : ObjLe ⟨T, sz, n, f, st, p, bx⟩ ⟨T, sz, n', f', st, p, bx'⟩ :=
  ⟨Nat.le_refl _, fun _ => rfl, fun _ => rfl, fun _ => hn, fun _ h => h, fun _ k hk => .inr ⟨(h k hk).len.symm, fun j x y hx hy => by
    obtain ⟨x', hx', hl⟩ := (h k hk).at_ hy
    rw [hx] at hx'; injection hx' with hx'; subst hx'; exact hl⟩⟩
theorem reta {rs : List ResultVar} {K : AV → List AObj → List Nat → Prop} {q : Prop} {y x : AV} {H' : List AObj} (h : aRes tab σ rs = some (q, [y])) (hq : q) (hk : K x H' σ.fg) (ht : Tells ⟨[y], σ.H, σ.fg, σ.nb⟩ ⟨[x], H', σ.fg, σ.nb⟩) : RetP tab rs K .ret σ := retp h hq [x] H' ht hk
theorem al_callg (hw : wantA l σ o = some true) {fo : Operand} {ao : List Operand} {ts : Array TypeId} (ho : o.op = .call { callee := .value fo, args := ao.toArray, argTypes := ts }) {f : FuncId} {fa ca : List AV} (hf : σ.ev fo = .fn (.func f) fa ca) (hg : GoFn P f)
    {x : AV} {H' : List AObj} (h : ACall P f (fa ++ ao.map σ.ev ++ ca) σ.H fun r H1 fg => r = x ∧ H1 = H' ∧ fg = [])
    (next : AL P r l Q R (St.put ⟨σ.s, H', σ.fg, σ.nb⟩ o.dst x)) : AL P r l Q (o :: R) σ := by
  obtain ⟨fn, c, h1, h2, h3⟩ := hg
  refine al_call hw ho hf h1 h2 h3 h fun x H' fg hk => ?_
  obtain ⟨rfl, rfl, rfl⟩ := hk
  have e : σ.s.map (fgs (fgk σ.H.length [])) = σ.s := by
    have : (fgs (fgk σ.H.length [])) = id := by funext a; rfl
    rw [this, List.map_id]
  rw [e, show fgk σ.nb.n [] = [] from rfl, List.append_nil]
  exact next
theorem map_getC (g : AV → AV) (css : List (List AV)) (k : Nat) : (getC css k).map g = getC (css.map (List.map g)) k := by
  unfold getC
  rw [nth_eq, nth_eq, List.getElem?_map]
  cases css[k]? <;> rfl
/-- Rows in a variable that are handed out: nobody writes them any more. -/
theorem tells_thawObj (i : Nat) {ob : AObj} {cs : List AV} {q : Prop} {used : List Nat} (ho : nth σ.H i = some ob) (hn : ob.n = 1) (hst : ob.st < 2) (h : thawL (thaw σ.H 4) (ob.f 0) = some (q, cs, used)) (hq : q) :
    Tells σ ⟨σ.s, share used 0 (setn σ.H i { ob with f := fun _ => cs, pure := true }), σ.fg, σ.nb⟩ := by
  intro P B μ a w hr
  rw [nth_eq] at ho
  rw [setn_eq]
  have hil : i < σ.H.length := (List.getElem?_eq_some_iff.1 ho).1
  have hset : ∀ (k : Nat) o, (σ.H.set i { ob with f := fun _ => cs, pure := true })[k]? = some o → ∃ o1, σ.H[k]? = some o1 ∧ o.st = o1.st := fun k o hk => by
    by_cases he : i = k
    · subst he; rw [List.getElem?_set_self hil] at hk; injection hk with hk; subst hk; exact ⟨ob, ho, rfl⟩
    · rw [List.getElem?_set_ne he] at hk; exact ⟨o, hk, rfl⟩
  have hoo : ∀ b, OO B.X (share used 0 (σ.H.set i { ob with f := fun _ => cs, pure := true })) μ b → Less (OO B.X σ.H μ) μ used b := by
    rintro b (hb | ⟨k, o, m, hi, hs, hm⟩)
    · exact ⟨.inl hb, fun i _ m hm => (hr.H.lt i b m hm).2 hb⟩
    · rw [share_at] at hi
      simp only [Option.map_eq_some_iff, Nat.zero_add] at hi
      obtain ⟨o1, h1, h2⟩ := hi
      obtain ⟨o2, h3, h4⟩ := hset k o1 h1
      have hnu : used.any (Nat.beq k) = false := by
        cases hc : used.any (Nat.beq k) with
        | false => rfl
        | true => rw [hc] at h2; simp only at h2; rw [← h2] at hs; simp at hs <;> omega
      rw [hnu] at h2
      simp only at h2
      subst h2
      refine ⟨.inr ⟨k, o2, m, h3, h4 ▸ hs, hm⟩, fun k' hk m' hm' => ?_⟩
      have := hr.H.inj _ _ _ _ _ hm hm'
      subst this
      have : used.any (Nat.beq k) = true := List.any_eq_true.2 ⟨k, hk, by simp⟩
      rw [hnu] at this; cases this
  have up : ∀ {ν : Mu} {a : AV} {v : Value}, RV (OO B.X σ.H μ) w ν a v → RV (OO B.X (share used 0 (σ.H.set i { ob with f := fun _ => cs, pure := true })) μ) w ν a v := fun h => h.mono (fun b _ hb => (hoo b hb).1) (fun _ _ _ => rfl) _ fun _ _ h => h
  refine ⟨μ, hr.size, fun k z v hz hv => up (hr.slot k z v hz hv), ⟨fun i l hi => by simp only [share_len, List.length_set]; exact hr.H.dom i l hi, hr.H.inj, hr.H.lt, fun k o hi hs => ?_, hr.H.xlt, hr.H.gl⟩, hr.df, hr.chg, hr.ext, hr.nb, by simp only [share_len, List.length_set]; exact hr.le, fun k z v hk hz => up (hr.pres k z v hk hz)⟩
  simp only [share_at, Option.map_eq_some_iff, Nat.zero_add] at hi
  obtain ⟨o1, h1, h2⟩ := hi
  have hfin : ObjAt (OO B.X (share used 0 (σ.H.set i { ob with f := fun _ => cs, pure := true })) μ) w μ k o1 := by
    by_cases he : i = k
    · subst he
      rw [List.getElem?_set_self hil] at h1
      injection h1 with h1
      have hat := hr.H.obj i ob ho hst
      obtain ⟨hz, hc⟩ := hat
      rcases hc with ⟨_, h0⟩ | ⟨b, m, cur, e1, e2⟩
      · omega
      · obtain ⟨vs, g1, g2, g3, _⟩ := elem_cells hz e2 (k := 0) (by omega)
        have g5 := thawL_rv (fun h hq => thaw_rv hr.H 4 h hq) h hq g1.opt
        have hle : 1 ≤ m := by have := e2.nle; omega
        subst h1
        refine ⟨hz, .inr ⟨b, m, cur, e1, ⟨e2.blk, e2.size, e2.le, e2.nle, e2.one, fun k hk => by simp only; rw [g5.1, g2], fun k j a v hk ha hv => ?_⟩⟩⟩
        have hk : k < ob.n := hk
        obtain rfl : k = 0 := by omega
        have hj : j < vs.length := by rw [← g5.1]; exact (List.getElem?_eq_some_iff.1 ha).1
        have hv' := g3 j _ (List.getElem?_eq_getElem hj)
        simp only at hv
        rw [hv'] at hv
        injection hv with hv
        subst hv
        exact (g5.2 j a _ ha (List.getElem?_eq_getElem hj)).mono (fun b _ hb => hoo b hb) (fun _ _ _ => rfl) _ fun _ _ h => h
    · rw [List.getElem?_set_ne he] at h1
      have hst' : o1.st < 2 := by
        split at h2 <;> rw [← h2] at hs
        · simp at hs; omega
        · exact hs
      exact (hr.H.obj k o1 h1 hst').mono (fun b _ hb => (hoo b hb).1) (fun _ _ _ => rfl) (fun _ _ h => h) fun _ _ _ => rfl
  split at h2 <;> rw [← h2]
  · obtain ⟨hz, hc⟩ := hfin
    exact ⟨hz, hc.imp (fun h => h) fun ⟨b, m, cur, e1, e2⟩ => ⟨b, m, cur, e1, ⟨e2.blk, e2.size, e2.le, e2.nle, e2.one, e2.flen, e2.cell⟩⟩⟩
  · exact hfin
/-! what a state's parts come to -/
theorem idf_lit (n : Nat) (x : Value) : idfree (n + 1) (.lit x) = true := rfl
theorem idf_lit4 (x : Value) : idfree 4 (.lit x) = true := rfl
theorem idf_sl4 (a b : Nat) (t : Bool) (f : Nat → List AV) : idfree 4 (.sl a b t f) = true := rfl
theorem idf_ip4 (c : List AV) : idfree 4 (.ip c) = true := rfl
theorem idf_arr4 (a b : Nat) (f : Nat → List AV) : idfree 4 (.arr a b f) = true := rfl
theorem idf_row4 (a b c d : Nat) (e : Option Nat) : idfree 4 (.row a b c d e) = false := rfl
theorem idf_ptr4 (a b c d : Nat) : idfree 4 (.ptr a b c d) = false := rfl
theorem idf_fn4 (f : Fn) (a b : List AV) : idfree 4 (.fn f a b) = (a.all (idfree 3) && b.all (idfree 3)) := rfl
theorem idf_lit3 (x : Value) : idfree 3 (.lit x) = true := rfl
theorem idf_sl3 (a b : Nat) (t : Bool) (f : Nat → List AV) : idfree 3 (.sl a b t f) = true := rfl
theorem idf_ip3 (c : List AV) : idfree 3 (.ip c) = true := rfl
theorem idf_row3 (a b c d : Nat) (e : Option Nat) : idfree 3 (.row a b c d e) = false := rfl
theorem idf_ptr3 (a b c d : Nat) : idfree 3 (.ptr a b c d) = false := rfl
theorem fgo_t (id T sz n st : Nat) (f : Nat → List AV) (b : Bool) : forgetObj id ⟨T, sz, n, f, st, true, b⟩ = ⟨T, sz, n, f, st, true, b⟩ := rfl
theorem fgo_f (id T sz n st : Nat) (f : Nat → List AV) (b : Bool) : forgetObj id ⟨T, sz, n, f, st, false, b⟩ = ⟨T, sz, n, fun k => (f k).map (forget id 4), st, false, b⟩ := rfl
theorem reno_t (g : Nat → Option Nat) (T sz n st : Nat) (f : Nat → List AV) (b : Bool) : renObj g ⟨T, sz, n, f, st, true, b⟩ = ⟨T, sz, n, f, st, true, b⟩ := rfl
theorem reno_f (g : Nat → Option Nat) (T sz n st : Nat) (f : Nat → List AV) (b : Bool) : renObj g ⟨T, sz, n, f, st, false, b⟩ = ⟨T, sz, n, fun k => (f k).map (ren g 4), st, false, b⟩ := rfl
theorem nbeq (a b : Nat) : Nat.beq a b = (a == b) := by rw [Bool.eq_iff_iff, beq_iff_eq]; exact Nat.beq_eq ▸ Iff.rfl
/-! no slice is longer than memory allows -/
def lensA : Nat → AV → Prop
  | 0, _ => True
  | n + 1, a => match a with
    | .sl _ k _ _ => k ≤ 9223372036854775807
    | .agg cs => ∀ c ∈ cs, lensA n c
    | _ => True
theorem lensA_rv {O : Nat → Prop} {w : World} : ∀ (n : Nat) {μ : Mu} {a : AV} {v : Value}, RV O w μ a v → lensA n a
  | 0, _, _, _, _ => trivial
  | n + 1, μ, a, v, h => by
    cases h with
    | sl ho hc hm ht h1 h2 h hz hA => exact Nat.le_trans hc (Nat.le_trans hm (by decide))
    | agg h1 h =>
      intro c hc
      obtain ⟨j, hj⟩ := List.mem_iff_getElem?.1 hc
      have hlt := (List.getElem?_eq_some_iff.1 hj).1
      exact lensA_rv n (h j c _ hj (List.getElem?_eq_getElem (by omega)))
    | _ => exact trivial
theorem apure_lens {f : FuncId} {args : List AV} {x : AV} {N : List AObj} (h : (∀ a ∈ args, lensA 3 a) → APure P f args x N) : APure P f args x N := fun w X μ vs hH hv =>
  h (fun a ha => by
    obtain ⟨j, hj⟩ := List.mem_iff_getElem?.1 ha
    obtain ⟨v, _, hr⟩ := hv.at_ hj
    exact lensA_rv 3 hr) w X μ vs hH hv
theorem al_pcl (hw : wantA l σ o = some true) {fo : Operand} {ao : List Operand} {ts : Array TypeId} (ho : o.op = .call { callee := .value fo, args := ao.toArray, argTypes := ts }) {f : FuncId} {fa ca : List AV} (hf : σ.ev fo = .fn (.func f) fa ca) (hg : GoFn P f)
    {q : Prop} {args' args'' : List AV} {used : List Nat} (ht : thawL (thaw σ.H 4) (fa ++ ao.map σ.ev ++ ca) = some (q, args', used)) (hq : q) {x : AV} {N : List AObj} (h : APure P f args'' x N) (hl : LeS args' args'')
    (next : AL P r l Q R (St.put ⟨σ.s, share used 0 σ.H ++ N.map (renObj (sh σ.H.length)), σ.fg, σ.nb⟩ o.dst (ren (sh σ.H.length) 4 x))) : AL P r l Q (o :: R) σ := al_pc hw ho hf hg ht hq (h.le hl) next
theorem ad_pcl (hw : wantA l σ' o = some true) {fo : Operand} {ao : List Operand} {ts : Array TypeId} (ho : o.op = .call { callee := .value fo, args := ao.toArray, argTypes := ts }) {f : FuncId} {fa ca : List AV} (hf : σ'.ev fo = .fn (.func f) fa ca) (hg : GoFn P f)
    (hid : (fa ++ ao.map σ'.ev ++ ca).all (idfree 4) = true) {args'' : List AV} {x y : AV} {N : List AObj} {q : Prop} {used : List Nat} (h : APure P f args'' x N) (hl : LeS (fa ++ ao.map σ'.ev ++ ca) args'') (ht : thaw N 4 x = some (q, y, used)) (hq : q) (next : ADr P r l Q m σ R (σ'.put o.dst y)) : ADr P r l Q m σ (o :: R) σ' :=
  ad_call hw ho hf hg hid (h.le hl) ht hq next
theorem ret1 {rs : List ResultVar} {q : Prop} {x y : AV} {N : List AObj} (h : aRes tab σ rs = some (q, [y])) (hq : q) (ht : Tells ⟨[y], σ.H, σ.fg, σ.nb⟩ ⟨[x], N, σ.fg, σ.nb⟩) : RetP tab rs (fun r' H' _ => r' = x ∧ H' = N) .ret σ := retp h hq [x] N ht ⟨rfl, rfl⟩
theorem rett {rs : List ResultVar} {q : Prop} {l l' : List AV} {N : List AObj} (h : aRes tab σ rs = some (q, l)) (hq : q) (hl : resOf l' = .tup l') (ht : Tells ⟨l, σ.H, σ.fg, σ.nb⟩ ⟨l', N, σ.fg, σ.nb⟩) : RetP tab rs (fun r' H' _ => r' = .tup l' ∧ H' = N) .ret σ := retp h hq l' N ht ⟨hl, rfl⟩
theorem Tells.all {s : List AV} {H : List AObj} {fg : List Nat} {nb : YB} {s' : List AV} (hk : selOk [] nb.n = true) (hl : LeS (s.map (ren (idx []) 4)) s') : Tells ⟨s, H, fg, nb⟩ ⟨s', [], fg, nb⟩ := (Tells.sel [] rfl hk).trans (Tells.le hl .nil)
/-- A literal of a list. -/
theorem leLit {e : Enc α} {sz n : Nat} {t : Bool} {xs : List α} {css : List (List AV)} (h : css = xs.map e.enc) (hn : n = xs.length) : AV.Le (.sl sz n t (getC css)) (.sl sz xs.length false (fE e xs)) :=
  .sl hn (fun h => by cases h) fun k hk => fE_lit h (hn ▸ hk)
/-- A cut of a list. -/
theorem leCut {e : Enc α} {sz n : Nat} {lo hi : Option Int} {t t' : Bool} {xs ys : List α} (hn : n = xs.length) (hok : cutHi hi n ≤ n) (ht : t' = true → t = true) (hy : ys = (xs.take (cutHi hi n)).drop (cutLo lo)) :
    AV.Le (.sl sz (cutLen lo hi n) t (cutF lo (fE e xs))) (.sl sz ys.length t' (fE e ys)) := by
  subst hn hy
  refine .sl ?_ ht fun k hk => ?_
  · rw [cutLen_eq, List.length_drop, List.length_take, Nat.min_eq_left hok]
  · rw [cutLen_eq] at hk
    rw [cutF_eq]
    simp only [fE, List.getD_eq_getElem?_getD, List.getElem?_drop, List.getElem?_take]
    rw [if_pos (by omega)]
/-- A call that boxes its first argument (a pointer) and answers a function that has captured what the call had, and the box. -/
def BoxC (P : Program) (f g : FuncId) (T : TypeId) : Prop := ∀ (p : Option Addr) (v : Value) (w : World), Calls P f #[.pointer p, v] w fun e w' => e = .returned (.func (.func g) #[] #[v, .pointer (some ⟨w.heap.size, 0, none⟩)]) ∧ w' = w.alloc (.cells #[.pointer p] T)
theorem dstep_box {ev : Operand → AV} {H0 : List AObj} {id : Nat} {o : Oper} {fo x : Operand} {ts : Array TypeId} (ho : o.op = .call { callee := .value fo, args := #[x], argTypes := ts }) {f g : FuncId} {c : AV} (hf : ev fo = .fn (.func f) [] [c]) (hg : GoFn P f)
    {i sz k off : Nat} (hx : ev x = .ptr i sz k off) {T : TypeId} (hc : BoxC P f g T) : DStep P ev H0 id o ⟨.fn (.func g) [] [c, .ptr id 1 0 0], some { T := T, sz := 1, n := 1, f := fun _ => [.ptr i sz k off], pure := false, box := true }⟩ := by
  obtain ⟨fn, cd, hfn, hnm, hb⟩ := hg
  intro w X μ H ρ hH hle hr
  have hfv := hr fo (by rw [ho]; simp [Op.operands, Call.operands])
  have hxv := hr x (by rw [ho]; simp [Op.operands, Call.operands])
  rw [hf] at hfv
  rw [hx] at hxv
  generalize hgv : ρ fo = fv at hfv
  generalize hpv : ρ x = pv at hxv
  cases hxv with
  | ptr hp =>
    rename_i b0 m0
    cases hfv with
    | fn h1 h2 h3 h4 =>
      rename_i vs us
      cases vs with
      | cons => simp at h1
      | nil =>
        match us, h3 with
        | [v2], _ =>
          have hv2 := h4 0 c v2 rfl rfl
          refine stepOk_call (ao := [x]) ho hgv hfn hnm hb ?_
          have := hc (some ⟨b0, k * sz + off, none⟩) v2 w
          have he : ([] ++ [x].map ρ ++ [v2]).toArray = #[.pointer (some ⟨b0, k * sz + off, none⟩), v2] := by rw [← hpv]; rfl
          rw [he]
          refine this.mono fun e w' he => ?_
          obtain ⟨rfl, rfl⟩ := he
          have hal : Below w.heap.size w (w.alloc (.cells #[.pointer (some ⟨b0, k * sz + off, none⟩)] T)) := Below.alloc (Below.refl _ _) (Nat.le_refl _) _
          refine ⟨_, rfl, hal, w.heap.size, 1, #[.pointer (some ⟨b0, k * sz + off, none⟩)], Nat.le_refl _, ?_, Nat.zero_lt_one, rfl, ⟨heap_alloc_new w _, rfl, ?_, Nat.le_refl _, fun k j v hk hj hv => ?_, fun k hk => rfl, fun k j a v hk ha hv => ?_⟩, fun O' μ' hO hμ hm => ?_⟩
          · simp
          · unfold maxLen; omega
          · have hk : k < 1 := hk
            have hj : j < 1 := hj
            obtain rfl : k = 0 := by omega
            obtain rfl : j = 0 := by omega
            have hv : some (Value.pointer (some ⟨b0, _, none⟩)) = some v := hv
            injection hv with hv; subst hv; rfl
          · have hk : k < 1 := hk
            obtain rfl : k = 0 := by omega
            match j with
            | 0 =>
              have ha : some (AV.ptr i sz _ off) = some a := ha
              have hv : some (Value.pointer (some ⟨b0, _, none⟩)) = some v := hv
              injection ha with ha; injection hv with hv; subst ha hv
              exact .ptr hp
            | j + 1 => cases ha
          · refine .fn (vs := []) (us := [v2, _]) rfl (fun j a v ha => by simp at ha) rfl fun j a v ha hv => ?_
            match j with
            | 0 =>
              simp at ha hv; subst ha hv
              exact hv2.mono (fun b hb hb' => (hO b hb').elim (fun h => h) fun h => by omega) (fun b hb _ => hal.block b hb) _ hμ
            | 1 =>
              simp at ha hv; subst ha hv
              exact (show RV O' _ μ' (.ptr id 1 0 0) (.pointer (some ⟨w.heap.size, 0 * 1 + 0, none⟩)) from .ptr hm)
            | j + 2 => simp at ha
theorem ad_box (hw : wantA l σ' o = some true) {fo x : Operand} {ts : Array TypeId} (ho : o.op = .call { callee := .value fo, args := #[x], argTypes := ts }) {f g : FuncId} {c : AV} (hf : σ'.ev fo = .fn (.func f) [] [c]) (hg : GoFn P f)
    {i sz k off : Nat} (hx : σ'.ev x = .ptr i sz k off) {T : TypeId} (hc : BoxC P f g T)
    (next : ADr P r l Q m σ R (St.put ⟨σ'.s, σ'.H ++ [{ T := T, sz := 1, n := 1, f := fun _ => [.ptr i sz k off], pure := false, box := true }], σ'.fg, σ'.nb⟩ o.dst (.fn (.func g) [] [c, .ptr σ'.H.length 1 0 0]))) : ADr P r l Q m σ (o :: R) σ' :=
  ad_step hw (dstep_box ho hf hg hx hc) (by rw [got_new]; exact next)
/-- append, and what the row's elements are from then on. -/
theorem al_app {q : Prop} {y : AV} {H' : List AObj} {id : Nat} {ob : AObj} {t : TypeId} {sx xx : Operand} (f' : Nat → List AV) (hT : TabOk P tab) (hw : wantA l σ o = some true) (ho : o.op = .call { callee := .builtin .append, args := #[sx, xx], argTypes := #[t, t] })
    (h : aAppend tab σ.H t (σ.ev sx) (σ.ev xx) = some (q, y, H', some id)) (hob : nth H' id = some ob) (hq : q) (hf : ∀ k, k < ob.n → f' k = ob.f k)
    (next : AL P r l Q R ((σ.behind (setn H' id { ob with f := f' }) (some id)).put o.dst y)) : AL P r l Q (o :: R) σ := by
  refine al_append hT hw ho h hq ?_
  refine al_tell (σ' := (σ.behind (setn H' id { ob with f := f' }) (some id)).put o.dst y) ?_ next
  cases hd : o.dst <;> exact Tells.objf id f' hob hf
end
end Go.Proofs.YthdckgcalooipaaDoor
namespace Go.Proofs.YthdckgcalooipaaDoor
section
open Go.RowKit
set_option linter.unusedVariables false
set_option linter.unusedSimpArgs false
set_option linter.unusedSectionVars false
variable {P : Program} {tab : Tab} {X : Nat → Prop} {H H' : List AObj} {μ μ' : Mu} {w w' : World} {r : Option Nat} {l R : List Oper} {Q : Exit → St → Prop} {σ : St} {o : Oper}
theorem HRel.drew (h : HRel μ X H w) : HRel μ X H w.drew :=
  ⟨h.dom, h.inj, h.lt, fun i o hi hs => ObjAt.mono (w := w) (w' := w.drew) (fun _ _ h => h) (fun _ _ _ => rfl) (fun _ _ h => h) (fun _ _ _ => rfl) (h.obj i o hi hs), h.xlt, h.gl.step (w' := w.drew) (Nat.le_refl _) (fun _ _ _ _ => rfl) (fun _ h => .inl h) fun i b m h => .inl ⟨i, m, h⟩⟩
theorem RV.drew {O : Nat → Prop} {a : AV} {v : Value} (h : RV O w μ a v) : RV O w.drew μ a v := RV.mono (w := w) (w' := w.drew) (fun _ _ h => h) (fun _ _ _ => rfl) h _ fun _ _ h => h
theorem mut_fresh (hH : HRel μ X H w) {S : Sem Next} {T sz n cap : Nat} {f : Nat → List AV} {cur : Array Value} (hz : 0 < sz) (hrun : S.run P w = .ok (.value (.slice (some ⟨w.heap.size, 0, none⟩) n cap)) (w.drew.alloc (.cells cur T))) (hn : n ≤ cap) (hm : cap ≤ maxLen) (hsz : cur.size = cap * sz)
    (h1 : ∀ (k j : Nat) v, k < n → j < sz → cur[k * sz + j]? = some v → v.oneCell' = true) (hf : ∀ k, k < n → (f k).length = sz) (hc : ∀ (k j : Nat) a v, k < n → (f k)[j]? = some a → cur[k * sz + j]? = some v → RV (OO X H μ) w noMu a v) :
    MutOk P S X μ H w (.row H.length sz 0 n none) (H ++ [{ T := T, sz := sz, n := n, f := f }]) none := by
  have hH' := hH.drew
  obtain ⟨g1, g2, g3, g4, g5⟩ := hH'.new (o := { T := T, sz := sz, n := n, f := f }) (m := cap) (cur := cur) hz hsz hm hn h1 hf fun k j a v hk ha hv => (hc k j a v hk ha hv).drew
  refine ⟨_, _, _, _, hrun, .inl rfl, g1, fun i b m hi => (g3 i b m hi), (Chg.drew μ w).trans (Ext.refl _ _) g4, ?_, fun k a v h => ⟨g5 k h.drew, fun _ => g5 k h.drew⟩⟩
  have := RV.row (O := OO X (H ++ [{ T := T, sz := sz, n := n, f := f }]) (fun i => if i = H.length then some (some (w.drew.heap.size, cap)) else μ i)) (w := w.drew.alloc (.cells cur T)) (μ := fun i => if i = H.length then some (some (w.drew.heap.size, cap)) else μ i) (i := H.length) (sz := sz) (off := 0) (n := n) (b := w.heap.size) (m := cap) (c := cap) (cap := none) (by simp) hn (by omega) (fun q hq => by cases hq) (fun _ => by omega)
  simpa using this
/-- What stands ahead: a slice without room. -/
def tightOf (sz : Nat) : AV → Option (Nat × (Nat → List AV))
  | .sl sz' n true f => match Nat.beq sz' sz with | true => some (n, f) | false => none
  | .lit (.slice none 0 0) => some (0, fun _ => [])
  | _ => none
theorem tight_ok {sz n : Nat} {f : Nat → List AV} {y : AV} (hz : 0 < sz) (h : tightOf sz y = some (n, f)) {v : Value} (hv : RV (OO X H μ) w μ y v) : ∃ (A : Option Addr) (olds : List Value), v = .slice A n n ∧ n ≤ maxLen ∧ olds.length = n * sz ∧ (∀ u ∈ olds, u.oneCell' = true) ∧
    (Builtin.firstCells sz n (.slice A n n)).run P w.drew = .ok olds.toArray w.drew ∧ (∀ k, k < n → (f k).length = sz) ∧ ∀ (k j : Nat) a v, k < n → (f k)[j]? = some a → olds[k * sz + j]? = some v → RV (OO X H μ) w noMu a v := by
  unfold tightOf at h
  split at h
  · rename_i sz1 n1 f1
    split at h
    · rename_i hb
      injection h with h; injection h with e1 e2; subst e1 e2
      have hb := beq_t hb; subst hb
      cases hv with
      | sl ho hc hm ht h1 h2 h3 hz' hA =>
        rename_i A c vs
        obtain rfl := ht rfl
        refine ⟨A, vs, rfl, hm, h1, ho, ?_, h2, h3⟩
        by_cases hn : c = 0
        · subst hn
          obtain rfl : vs = [] := List.eq_nil_of_length_eq_zero (by simpa using h1)
          cases A with
          | none => exact run_firstCells_none w.drew sz1 0 0 0
          | some a => exact run_firstCells_some w.drew sz1 0 a 0 0 [] (by simp) (by simp)
        · obtain ⟨g, q, rfl, _, hcell⟩ := hA hn
          refine run_firstCells_some w.drew sz1 c ⟨g, q, none⟩ c c vs h1 fun j u hu => ?_
          have hadd : (⟨g, q, none⟩ : Addr).add j = ⟨g, q + j, none⟩ := by simp [Addr.add_lit]
          rw [hadd]
          simpa using hcell j u hu
    · cases h
  · injection h with h; injection h with e1 e2; subst e1 e2
    cases hv
    exact ⟨none, [], rfl, Nat.zero_le _, by simp, fun u hu => by simp at hu, run_firstCells_none w.drew sz 0 0 0, fun k hk => by omega, fun k j a v hk => by omega⟩
  · cases h
def aAppNew (tab : Tab) (H : List AObj) (t : TypeId) (s x : AV) : Option (Prop × AV × AObj) :=
  match tab t with
  | some i => match i.k with
    | .slice e => match tab e with
      | some ei => match srcOf H ei.sz x, tightOf ei.sz s, Nat.blt 0 ei.sz with
        | some (q, m, g), some (n, f), true => some (q ∧ 0 < m ∧ (n + m) * ei.by_ ≤ 140737488355328 ∧ n + m ≤ 140737488355328, .row H.length ei.sz 0 (n + m) none, { T := e, sz := ei.sz, n := n + m, f := appF n f g })
        | _, _, _ => none
      | none => none
    | _ => none
  | none => none
def aAppZero (tab : Tab) (H : List AObj) (t ti : TypeId) (s x : AV) : Option (Prop × AV × AObj) :=
  match tab t, tab ti, x with
  | some i, some ii, .lit (.int _ z) => match i.k, ii.k with
    | .slice e, .int _ => match tab e with
      | some ei => match tightOf ei.sz s, Nat.blt 0 ei.sz with
        | some (n, f), true => some (0 < z ∧ (n + z.toNat) * ei.by_ ≤ 140737488355328 ∧ n + z.toNat ≤ 140737488355328, .row H.length ei.sz 0 (n + z.toNat) none, { T := e, sz := ei.sz, n := n + z.toNat, f := appF n f fun _ => lits ei.zeroCells })
        | _, _ => none
      | none => none
    | _, _ => none
  | _, _, _ => none
theorem appCells {sz n m : Nat} {f g : Nat → List AV} {olds news : List Value} {cur : Array Value} {rest : List Value} (hcur : cur.toList = olds ++ news ++ rest) (h1 : olds.length = n * sz) (h2 : ∀ u ∈ olds, u.oneCell' = true) (h3 : ∀ k, k < n → (f k).length = sz) (h4 : ∀ (k j : Nat) a v, k < n → (f k)[j]? = some a → olds[k * sz + j]? = some v → RV (OO X H μ) w noMu a v)
    (g1 : news.length = m * sz) (g2 : ∀ u ∈ news, u.oneCell' = true) (g3 : ∀ k, k < m → (g k).length = sz) (g4 : ∀ (k j : Nat) a v, k < m → (g k)[j]? = some a → news[k * sz + j]? = some v → RV (OO X H μ) w noMu a v) :
    (∀ (k j : Nat) v, k < n + m → j < sz → cur[k * sz + j]? = some v → v.oneCell' = true) ∧ (∀ k, k < n + m → (appF n f g k).length = sz) ∧ ∀ (k j : Nat) a v, k < n + m → (appF n f g k)[j]? = some a → cur[k * sz + j]? = some v → RV (OO X H μ) w noMu a v := by
  have hlen : ∀ k, k < n + m → (appF n f g k).length = sz := fun k hk => by
    by_cases hkn : k < n
    · rw [appF_lt hkn]; exact h3 k hkn
    · rw [appF_ge (by omega)]; exact g3 _ (by omega)
  have hat : ∀ (k j : Nat) v, k < n + m → j < sz → cur[k * sz + j]? = some v → (k < n ∧ olds[k * sz + j]? = some v) ∨ (n ≤ k ∧ news[(k - n) * sz + j]? = some v) := fun k j v hk hj hv => by
    rw [← Array.getElem?_toList, hcur, List.append_assoc] at hv
    by_cases hkn : k < n
    · have : (k + 1) * sz ≤ n * sz := Nat.mul_le_mul_right _ hkn
      rw [Nat.add_mul] at this
      rw [List.getElem?_append_left (by omega)] at hv
      exact .inl ⟨hkn, hv⟩
    · have h5 : n * sz ≤ k * sz := Nat.mul_le_mul_right _ (by omega)
      rw [List.getElem?_append_right (by omega)] at hv
      have h6 : k * sz + j - olds.length = (k - n) * sz + j := by rw [h1, Nat.sub_mul]; omega
      rw [h6] at hv
      have h7 : (k - n + 1) * sz ≤ m * sz := Nat.mul_le_mul_right _ (by omega)
      rw [Nat.add_mul] at h7
      rw [List.getElem?_append_left (by omega)] at hv
      exact .inr ⟨by omega, hv⟩
  refine ⟨fun k j v hk hj hv => ?_, hlen, fun k j a v hk ha hv => ?_⟩
  · rcases hat k j v hk hj hv with ⟨_, h⟩ | ⟨_, h⟩
    · exact h2 v (List.mem_of_getElem? h)
    · exact g2 v (List.mem_of_getElem? h)
  · have hj : j < sz := by rw [← hlen k hk]; exact (List.getElem?_eq_some_iff.1 ha).1
    rcases hat k j v hk hj hv with ⟨hkn, h⟩ | ⟨hkn, h⟩
    · rw [appF_lt hkn] at ha; exact h4 k j a v hkn ha h
    · rw [appF_ge hkn] at ha; exact g4 _ j a v (by omega) ha h
theorem al_appnew (hT : TabOk P tab) (hw : wantA l σ o = some true) {t : TypeId} {sx xx : Operand} (ho : o.op = .call { callee := .builtin .append, args := #[sx, xx], argTypes := #[t, t] }) {q : Prop} {y : AV} {ob : AObj}
    (h : aAppNew tab σ.H t (σ.ev sx) (σ.ev xx) = some (q, y, ob)) (hq : q) (next : AL P r l Q R (St.put ⟨σ.s, σ.H ++ [ob], σ.fg, σ.nb⟩ o.dst y)) : AL P r l Q (o :: R) σ := by
  refine al_mut (H' := σ.H ++ [ob]) (fg := none) hw (fun c hc => by rw [ho] at hc; cases hc) (fun B μ a w hr => ⟨?_, by simp⟩) next
  have hex : execOp a.eval o = (do pure (.value (← Builtin.append_ #[t, t] o.type #[a.eval sx, a.eval xx])) : Sem Next) := by
    unfold execOp
    rw [ho]
    simp [resolve, invoke, builtin]
  rw [hex]
  have hs := hr.ev sx
  have hx := hr.ev xx
  unfold aAppNew at h
  split at h
  · rename_i i hi
    split at h
    · rename_i e hk
      split at h
      · rename_i ei he
        split at h
        · rename_i q' m g n f hsrc hti hz
          injection h with h; injection h with e0 h; injection h with e1 e2
          subst e0 e1 e2
          obtain ⟨q1, q2, q3, q4⟩ := hq
          rw [Nat.blt_eq] at hz
          obtain ⟨A, c, news, g1, g2, g3, g4, g5, g6⟩ := src_ok hr.H hsrc q1 hx
          obtain ⟨A', olds, k1, k2, k3, k4, k5, k6, k7⟩ := tight_ok (P := P) hz hti hs
          obtain ⟨a', rfl, gc⟩ := g4 (by omega)
          have hu := (hT t i hi).und
          rw [hk] at hu; simp only [UndOk] at hu
          obtain ⟨fi, hf, hfs, hfb, zv, hzv, hzc⟩ := (hT e ei he).info
          have hzs : zv.cells.size = ei.sz := by rw [← Array.length_toList, hzc, (hT e ei he).zlen]
          have hsrc' : Src P fi.size t (.slice (some a') m c) m news w := Src.ofSlice w hu a' m c news (by rw [hfs]; exact g2) gc g3
          have hrun := run_append_grow_src (P := P) w t t o.type e fi zv hu hf hzv A' n n olds (by rw [hfs]; exact k5) _ m news hsrc' (by omega) (by omega) (by rw [hfb]; exact growslice_fits (by omega) q3)
          rw [k1, g1]
          have hge := grownCap_ge w (n + m) n e
          obtain ⟨c1, c2, c3⟩ := appCells (cur := (olds ++ news).toArray ++ Builtin.zeroCells zv.cells (grownCap w (n + m) n e - (n + m))) (rest := (Builtin.zeroCells zv.cells (grownCap w (n + m) n e - (n + m))).toList) (by simp) k3 k4 k6 k7 g2 g3 g5 g6
          refine mut_fresh hr.H hz (cap := grownCap w (n + m) n e) (by rw [Sem.run_bind, hrun]; rfl) hge (grownCap_le_maxLen w _ _ _ (by unfold maxLen; omega)) ?_ c1 c2 c3
          simp only [Array.size_append, List.size_toArray, List.length_append, size_zeroCells, hzs, k3, g2, ← Nat.add_mul]
          congr 1; omega
        · cases h
      · cases h
    · cases h
  · cases h
theorem al_appzero (hT : TabOk P tab) (hw : wantA l σ o = some true) {t ti : TypeId} {sx xx : Operand} (ho : o.op = .call { callee := .builtin .append, args := #[sx, xx], argTypes := #[t, ti] }) {q : Prop} {y : AV} {ob : AObj}
    (h : aAppZero tab σ.H t ti (σ.ev sx) (σ.ev xx) = some (q, y, ob)) (hq : q) (next : AL P r l Q R (St.put ⟨σ.s, σ.H ++ [ob], σ.fg, σ.nb⟩ o.dst y)) : AL P r l Q (o :: R) σ := by
  refine al_mut (H' := σ.H ++ [ob]) (fg := none) hw (fun c hc => by rw [ho] at hc; cases hc) (fun B μ a w hr => ⟨?_, by simp⟩) next
  have hex : execOp a.eval o = (do pure (.value (← Builtin.append_ #[t, ti] o.type #[a.eval sx, a.eval xx])) : Sem Next) := by
    unfold execOp
    rw [ho]
    simp [resolve, invoke, builtin]
  rw [hex]
  have hs := hr.ev sx
  have hx := hr.ev xx
  unfold aAppZero at h
  split at h
  · rename_i i ii kz z hi hii hxe
    split at h
    · rename_i e kn hk hkn
      split at h
      · rename_i ei he
        split at h
        · rename_i n f hti hz
          injection h with h; injection h with e0 h; injection h with e1 e2
          subst e0 e1 e2
          obtain ⟨q1, q2, q3⟩ := hq
          rw [Nat.blt_eq] at hz
          rw [hxe] at hx
          obtain ⟨A', olds, k1, k2, k3, k4, k5, k6, k7⟩ := tight_ok (P := P) hz hti hs
          have hu := (hT t i hi).und
          rw [hk] at hu; simp only [UndOk] at hu
          have hui := (hT ti ii hii).und
          rw [hkn] at hui; simp only [UndOk] at hui
          obtain ⟨fi, hf, hfs, hfb, zv, hzv, hzc⟩ := (hT e ei he).info
          have hzs : zv.cells.size = ei.sz := by rw [← Array.length_toList, hzc, (hT e ei he).zlen]
          have hzz : ((z.toNat : Nat) : Int) = z := by omega
          have hrun := Lib.run_append_grow_zeros (P := P) w t ti o.type e fi zv kz kn hu hui hf hzv A' n n olds (by rw [hfs]; exact k5) z.toNat (by omega) (by rw [hfs]; exact hz) (by omega) (by omega) (by
            rw [hfb]
            have : z.toNat * ei.by_ ≤ (n + z.toNat) * ei.by_ := Nat.mul_le_mul_right _ (by omega)
            omega) (by rw [hfb]; exact growslice_fits (by omega) q2)
          rw [hzz] at hrun
          rw [k1, hx.lit_eq]
          have hge := grownCap_ge w (n + z.toNat) n e
          have hzcell : ∀ (m k j : Nat), k < m → j < ei.sz → (Builtin.zeroCells zv.cells m)[k * ei.sz + j]? = ei.zeroCells[j]? := fun m k j hk hj => by
            have h1 : k * ei.sz + j < m * ei.sz := by
              have : (k + 1) * ei.sz ≤ m * ei.sz := Nat.mul_le_mul_right _ hk
              rw [Nat.add_mul] at this; omega
            simp only [Builtin.zeroCells, hzs]
            rw [Array.getElem?_map, Array.getElem?_range]
            simp only [h1, if_true, Option.map_some]
            have h2 : (k * ei.sz + j) % ei.sz = j := by rw [Nat.mul_comm, Nat.mul_add_mod]; exact Nat.mod_eq_of_lt hj
            rw [h2, ← hzc]
            have h3 : j < zv.cells.size := by omega
            simp [h3]
          have hg4 : ∀ (k j : Nat) a v, k < z.toNat → (lits ei.zeroCells)[j]? = some a → (Builtin.zeroCells zv.cells z.toNat).toList[k * ei.sz + j]? = some v → RV (OO B.X σ.H μ) w noMu a v := fun k j a v hk ha hv => by
            simp only [lits, List.getElem?_map, Option.map_eq_some_iff] at ha
            obtain ⟨u, hu, rfl⟩ := ha
            have hj : j < ei.sz := by rw [← (hT e ei he).zlen]; exact (List.getElem?_eq_some_iff.1 hu).1
            rw [Array.getElem?_toList, hzcell _ _ _ hk hj, hu] at hv
            injection hv with hv; subst hv
            exact .lit _
          have hone : ∀ u ∈ (Builtin.zeroCells zv.cells z.toNat).toList, u.oneCell' = true := fun u hu => by
            obtain ⟨k, hk⟩ := List.getElem?_of_mem hu
            have hlt : k < z.toNat * ei.sz := by have := (List.getElem?_eq_some_iff.1 hk).1; simpa [size_zeroCells, hzs] using this
            have hjm : k % ei.sz < ei.sz := Nat.mod_lt _ hz
            rw [← Nat.div_add_mod' k ei.sz, Array.getElem?_toList, hzcell _ _ _ ((Nat.div_lt_iff_lt_mul hz).2 hlt) hjm] at hk
            exact (hT e ei he).zone u (List.mem_of_getElem? hk)
          obtain ⟨c1, c2, c3⟩ := appCells (g := fun _ => lits ei.zeroCells) (news := (Builtin.zeroCells zv.cells z.toNat).toList) (m := z.toNat) (cur := olds.toArray ++ Builtin.zeroCells zv.cells z.toNat ++ Builtin.zeroCells zv.cells (grownCap w (n + z.toNat) n e - (n + z.toNat))) (rest := (Builtin.zeroCells zv.cells (grownCap w (n + z.toNat) n e - (n + z.toNat))).toList) (by simp) k3 k4 k6 k7 (by simp [size_zeroCells, hzs]) hone (fun k _ => by simp [lits, (hT e ei he).zlen]) hg4
          refine mut_fresh hr.H hz (cap := grownCap w (n + z.toNat) n e) (by rw [Sem.run_bind, hrun]; rfl) hge (grownCap_le_maxLen w _ _ _ (by unfold maxLen; omega)) ?_ c1 c2 c3
          simp only [Array.size_append, List.size_toArray, size_zeroCells, hzs, k3, ← Nat.add_mul]
          congr 1; omega
        · cases h
      · cases h
    · cases h
  · cases h
theorem leArr {n : Nat} {f g : Nat → List AV} (h : ∀ k, k < n → g k = f k) : AV.Le (.arr 1 n f) (.arr 1 n g) := fun O w μ v hv => by
  cases hv with
  | arr h0 h1 h2 h3 => exact .arr h0 h1 (fun k hk => by rw [h k hk]; exact h2 k hk) fun k j a v hk ha hv => h3 k j a v hk (by rw [← h k hk]; exact ha) hv
theorem les1 {a b : AV} (h : AV.Le a b) : LeS [a] [b] := .cons h .nil
theorem les2 {a b c d : AV} (h : AV.Le a b) (h' : AV.Le c d) : LeS [a, c] [b, d] := .cons h (les1 h')
theorem les3 {a b c d e f : AV} (h : AV.Le a b) (h' : AV.Le c d) (h'' : AV.Le e f) : LeS [a, c, e] [b, d, f] := .cons h (les2 h' h'')
theorem retpn {rs : List ResultVar} {K : AV → List AObj → List Nat → Prop} {q : Prop} {l : List AV} (h : aRes tab σ rs = some (q, l)) (hq : q) (l' : List AV) (H' : List AObj) (ht : Tells ⟨l, σ.H, σ.fg, σ.nb⟩ ⟨l', H', σ.fg, σ.nb⟩) (hk : K (resOf l') H' σ.fg) : RetP tab rs K .normal σ := ⟨q, l, h, hq, l', H', ht, hk⟩
theorem ACall.le {f : FuncId} {args args' : List AV} {H : List AObj} {K : AV → List AObj → List Nat → Prop} (h : ACall P f args' H K) (hl : LeS args args') : ACall P f args H K := fun w X μ vs hH hv => h w X μ vs hH (hl.rvs hv)
theorem APure.res {f : FuncId} {args : List AV} {x y : AV} {N : List AObj} (h : APure P f args x N) (hl : AV.Le x y) : APure P f args y N := by
  unfold APure ACall at *
  intro w X μ vs hH hv
  refine (h w X μ vs hH hv).mono fun e w' he => ?_
  obtain ⟨v, r', H', fg, μ', e1, ⟨rfl, e2⟩, g1, g2, g3⟩ := he
  exact ⟨v, y, H', fg, μ', e1, ⟨rfl, e2⟩, g1, hl _ _ _ _ g2, g3⟩
/-- An operation whose answer is known in some other way. -/
theorem al_val (hw : wantA l σ o = some true) (hd : ∀ c, o.op ≠ .defer c) {x : AV} (h : ∀ (B : Base P) (μ : Mu) (a : Act) (w : World), SRel B μ σ a w → ∃ u, (execOp a.eval o).run P w = .ok (.value u) w ∧ RV (OO B.X σ.H μ) w μ x u) (next : AL P r l Q R (σ.put o.dst x)) : AL P r l Q (o :: R) σ := by
  refine al_mut (H' := σ.H) (fg := none) hw hd (fun B μ a w hr => ?_) (by simpa [St.behind] using next)
  obtain ⟨u, h1, h2⟩ := h B μ a w hr
  exact ⟨⟨_, u, w, μ, h1, .inl rfl, hr.H, Ext.refl _ _, Chg.refl _ _, h2, fun k a v h => ⟨h, fun _ => h⟩⟩, Nat.le_refl _⟩
def capA : AV → Option Nat
  | .sl _ n true _ => some n
  | .lit (.slice none 0 0) => some 0
  | _ => none
theorem al_cap (hT : TabOk P tab) (hw : wantA l σ o = some true) {t : TypeId} {x : Operand} (ho : o.op = .call { callee := .builtin .cap, args := #[x], argTypes := #[t] }) (ht : isSlice tab t = true) {n : Nat} (hx : capA (σ.ev x) = some n)
    (next : AL P r l Q R (σ.put o.dst (.lit (.int .i64 n)))) : AL P r l Q (o :: R) σ := by
  refine al_val hw (fun c hc => by rw [ho] at hc; cases hc) (fun B μ a w hr => ?_) next
  obtain ⟨e, he⟩ := isSlice_ok hT ht
  have hv := hr.ev x
  refine ⟨.int .i64 n, ?_, .lit _⟩
  have : ∃ A m, a.eval x = .slice A m n := by
    unfold capA at hx
    split at hx
    · injection hx with hx; subst hx; rename_i hh; rw [hh] at hv
      generalize a.eval x = v at hv
      cases hv with
      | sl ho hc hm ht h1 h2 h3 hz hA => obtain rfl := ht rfl; exact ⟨_, _, rfl⟩
    · injection hx with hx; subst hx; rename_i hh; rw [hh] at hv
      exact ⟨_, _, hv.lit_eq⟩
    · cases hx
  obtain ⟨A, m, hm⟩ := this
  unfold execOp
  rw [ho]
  simp [resolve, invoke, builtin, Builtin.cap_, hm, run_underlying he, goInt]
end
end Go.Proofs.YthdckgcalooipaaDoor
namespace Go.Proofs.YthdckgcalooipaaDoor
section
set_option linter.unusedVariables false
def u8of (n : Int) : UInt8 := UInt8.ofNat (n % 256).toNat
theorem u8of_nat (n : Int) : ((u8of n).toNat : Int) = n % 256 := by
  unfold u8of
  rw [UInt8.toNat_ofNat']
  have := Int.emod_nonneg n (show (256 : Int) ≠ 0 by omega)
  have := Int.emod_lt_of_pos n (show (0 : Int) < 256 by omega)
  omega
def vsize (n : Int) : Int := if n < 0 ∨ n > 1073741823 then 0 else if n < 64 then 1 else if n < 16384 then 2 else 4
def vput (n : Int) : List UInt8 :=
  if n < 0 ∨ n > 1073741823 then [] else if n < 64 then [u8of n] else if n < 16384 then [u8of (64 + n / 256), u8of n]
  else [u8of (128 + n / 16777216), u8of (n / 65536), u8of (n / 256), u8of n]
def beNum (n : Int) (l : List UInt8) : Int := l.foldl (fun n x => n * 256 + x.toNat) n
def vlen (x : UInt8) : Nat := if x.toNat < 64 then 1 else if x.toNat < 128 then 2 else if x.toNat < 192 then 4 else 0
def vget : List UInt8 → Int × List UInt8 × Int
  | [] => (0, [], 1)
  | x :: r =>
    if vlen x = 0 then (0, [], 2) else if r.length + 1 < vlen x then (0, [], 1)
    else if vsize (beNum (x.toNat % 64 : Int) (r.take (vlen x - 1))) ≠ vlen x then (0, [], 2)
    else (beNum (x.toNat % 64 : Int) (r.take (vlen x - 1)), r.drop (vlen x - 1), 0)
theorem beNum_append (n : Int) (l m : List UInt8) : beNum n (l ++ m) = beNum (beNum n l) m := by unfold beNum; rw [List.foldl_append]
theorem beNum_take (n : Int) (l : List UInt8) (j : Nat) (h : j < l.length) : beNum n (l.take (j + 1)) = beNum n (l.take j) * 256 + (l[j].toNat : Int) := by
  rw [List.take_succ_eq_append_getElem h, beNum_append]; rfl
theorem beNum_bd : ∀ (l : List UInt8) (n m : Int), 0 ≤ n → n < m → 0 ≤ beNum n l ∧ beNum n l < m * 256 ^ l.length
  | [], n, m, h0, h1 => by simpa [beNum] using ⟨h0, h1⟩
  | x :: l, n, m, h0, h1 => by
    have hx := UInt8.toNat_lt x
    have := beNum_bd l (n * 256 + x.toNat) (m * 256) (by omega) (by omega)
    refine ⟨this.1, ?_⟩
    have h2 := this.2
    rw [List.length_cons, Int.pow_succ, Int.mul_comm (256 ^ l.length), ← Int.mul_assoc]
    exact h2
theorem beNum_bd3 (n : Int) (l : List UInt8) (h0 : 0 ≤ n) (h1 : n < 64) (hl : l.length ≤ 3) : 0 ≤ beNum n l ∧ beNum n l < 1073741824 := by
  have h := beNum_bd l n 64 h0 h1
  refine ⟨h.1, Int.lt_of_lt_of_le h.2 ?_⟩
  have : l.length = 0 ∨ l.length = 1 ∨ l.length = 2 ∨ l.length = 3 := by omega
  rcases this with h | h | h | h <;> rw [h] <;> decide
theorem vget_cons (x : UInt8) (r : List UInt8) : vget (x :: r) = if vlen x = 0 then (0, [], 2) else if r.length + 1 < vlen x then (0, [], 1)
    else if vsize (beNum (x.toNat % 64 : Int) (r.take (vlen x - 1))) ≠ vlen x then (0, [], 2)
    else (beNum (x.toNat % 64 : Int) (r.take (vlen x - 1)), r.drop (vlen x - 1), 0) := rfl
theorem vget_ok {x : UInt8} {r : List UInt8} (h1 : 1 ≤ vlen x) (h2 : vlen x ≤ r.length + 1) :
    vget (x :: r) = if vsize (beNum (x.toNat % 64 : Int) (r.take (vlen x - 1))) ≠ vlen x then (0, [], 2) else (beNum (x.toNat % 64 : Int) (r.take (vlen x - 1)), (x :: r).drop (vlen x), 0) := by
  obtain ⟨q, hq⟩ : ∃ q, vlen x = q + 1 := ⟨vlen x - 1, by omega⟩
  rw [vget_cons, if_neg (by omega), if_neg (by omega), hq, List.drop_succ_cons, Nat.add_sub_cancel]
theorem vget_bad {x : UInt8} {r : List UInt8} (h : vlen x = 0 ∨ r.length + 1 < vlen x) : vget (x :: r) = (0, [], if vlen x = 0 then 2 else 1) := by
  rw [vget_cons]
  by_cases h0 : vlen x = 0
  · rw [if_pos h0, if_pos h0]
  · rw [if_neg h0, if_neg h0, if_pos (h.resolve_left h0)]
end
end Go.Proofs.YthdckgcalooipaaDoor
