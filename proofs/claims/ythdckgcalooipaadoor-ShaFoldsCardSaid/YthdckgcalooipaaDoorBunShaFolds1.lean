/- The words of memory that this seat's walks share: kinds of data, slices that read as lists, rows of the call's own. No program in sight. Words of thirty-two bits: what the model reckons, as UInt32. A region that draws its order, walked once, in the text's order: each operation is shown to do what it does in whatever world has come of those that it waits for. Arrays in memory: a block known whole, and what the walk does with it. What a call is shown to tell, of slices. Layer 3, plain: sixty-four octets mixed into eight words. Layer 3: the types of the arrays. Layer 3, walked: block.First, block.Spread. Layer 3, walked: block.Mix. Layer 3, walked: the document's answer: turned, moved, Spread. Layer 3, walked: the document's Spread. Layer 3, walked: the document's Mix. The tables of the packages that a walk relies on: block.numbers. The data of a walk, without memory: values as they read (AV), how they stand for the machine's values (RV), memory of one's own (AObj, HRel). No program in sight. Types as a walk sees them: a table, checked against the program's own; loads and values by type. -/
import Derived.WalkKit
import Derived.WalkSpells
import Derived.WalkLawsBesides
import Derived.Below
import Derived.Maps.AppendAt
import Derived.Deep.Draws
import Derived.Deep.AppendLies
import Derived.RegionTactic
import Derived.OwnWalk
import Derived.Lib.Hide
import Derived.Laws.BitsAllLaws
import Derived.Laws.BitsLemmas
import Derived.Laws.IdiomStrings
import Derived.Laws.BytesArg
import Derived.Orders
import Derived.Laws.Rows
import Derived.Laws.Tables
import Derived.Great.Walk
import Derived.Test.YthdckgcalooipaaDoorRows
import Derived.ProofKit
import Derived.BigQuiet
import Derived.Deep.RegionHeld3
import Derived.StillTailTactics
import Derived.Deep.WholeRow
import Derived.Deep.MidRow
import Derived.ControlIn
import Derived.CallsIn
namespace Go.Proofs.YthdckgcalooipaaDoor
section
open Go.RowKit
set_option linter.unusedVariables false
set_option linter.unusedSimpArgs false

theorem drop_add {β : Type} (c r : List β) (m : Nat) : (c ++ r).drop (c.length + m) = r.drop m := by
  rw [List.drop_append, List.drop_eq_nil_of_le (Nat.le_add_right _ _), List.nil_append, Nat.add_sub_cancel_left]
theorem take_add {β : Type} (c r : List β) (m : Nat) : (c ++ r).take (c.length + m) = c ++ r.take m := by
  rw [List.take_append, List.take_of_length_le (Nat.le_add_right _ _), Nat.add_sub_cancel_left]
theorem ret_int {k : IntKind} {a b : Int} (h : a = b) : Ending.returned (.int k a) = .returned (.int k b) := by rw [h]
theorem addr_block (a : Addr) (n : Nat) : (a.add n).block = a.block := by unfold Addr.add; split <;> rfl
theorem addr_add (a : Addr) (i j : Nat) : (a.add i).add j = a.add (i + j) := by
  unfold Addr.add
  by_cases hi : i = 0 <;> by_cases hj : j = 0 <;> simp [hi, hj, Nat.add_assoc]

/-- All blocks of w but those of O are in w' as they were. -/
def Keeps (O : Nat → Prop) (w w' : World) : Prop := ∀ k, k < w.heap.size → ¬ O k → w'.heap[k]? = w.heap[k]?

/-- A kind of data: how many cells it has, and which cells stand for which datum, with no block of O among those that they lead to. -/
structure Kd (α : Type) where
  sz : Nat
  rel : World → (Nat → Prop) → α → List Value → Prop
  len : ∀ {w O x cs}, rel w O x cs → cs.length = sz
  one : ∀ {w O x cs}, rel w O x cs → ∀ u ∈ cs, u.oneCell' = true
  anti : ∀ {w O O' x cs}, (∀ k, O' k → O k) → rel w O x cs → rel w O' x cs
  more : ∀ {w O x cs}, rel w O x cs → rel w (fun k => O k ∨ w.heap.size ≤ k) x cs
  keep : ∀ {w w' O x cs}, Keeps O w w' → rel w O x cs → rel w' O x cs

/-- A row of data, cell by cell. -/
def Reps {α : Type} (d : Kd α) (w : World) (O : Nat → Prop) : List α → List Value → Prop
  | [], cs => cs = []
  | x :: xs, cs => ∃ c r, cs = c ++ r ∧ d.rel w O x c ∧ Reps d w O xs r

section
variable {α : Type} {d : Kd α} {w w' : World} {O O' : Nat → Prop} {xs ys : List α} {cs ds : List Value}
theorem Reps.imp_ {w w' : World} {O O' : Nat → Prop} (hf : ∀ x c, d.rel w O x c → d.rel w' O' x c) : ∀ {xs : List α} {cs : List Value}, Reps d w O xs cs → Reps d w' O' xs cs
  | [], _, h => h
  | _ :: _, _, ⟨c, r, e, h, hr⟩ => ⟨c, r, e, hf _ _ h, Reps.imp_ hf hr⟩
theorem Reps.len : ∀ {xs : List α} {cs : List Value}, Reps d w O xs cs → cs.length = xs.length * d.sz
  | [], cs, h => by rw [show cs = [] from h]; simp
  | x :: xs, cs, ⟨c, r, e, h, hr⟩ => by rw [e, List.length_append, d.len h, hr.len, List.length_cons, Nat.add_mul]; omega
theorem Reps.one : ∀ {xs : List α} {cs : List Value}, Reps d w O xs cs → ∀ u ∈ cs, u.oneCell' = true
  | [], cs, h, u, hu => by rw [show cs = [] from h] at hu; simp at hu
  | x :: xs, cs, ⟨c, r, e, h, hr⟩, u, hu => by
    rw [e, List.mem_append] at hu
    exact hu.elim (d.one h u) (hr.one u)
theorem Reps.anti (h : Reps d w O xs cs) (hO : ∀ k, O' k → O k) : Reps d w O' xs cs := h.imp_ fun _ _ => d.anti hO
theorem Reps.more (h : Reps d w O xs cs) : Reps d w (fun k => O k ∨ w.heap.size ≤ k) xs cs := h.imp_ fun _ _ => d.more
theorem Reps.keep (h : Reps d w O xs cs) (hk : Keeps O w w') : Reps d w' O xs cs := h.imp_ fun _ _ => d.keep hk
theorem Reps.append : ∀ {xs : List α} {cs : List Value}, Reps d w O xs cs → Reps d w O ys ds → Reps d w O (xs ++ ys) (cs ++ ds)
  | [], cs, h, h' => by rw [show cs = [] from h]; exact h'
  | x :: xs, cs, ⟨c, r, e, h, hr⟩, h' => ⟨c, r ++ ds, by rw [e, List.append_assoc], h, hr.append h'⟩
theorem Reps.single {x : α} {c : List Value} (h : d.rel w O x c) : Reps d w O [x] c := ⟨c, [], by simp, h, rfl⟩
theorem Reps.drop : ∀ {xs : List α} {cs : List Value} (k : Nat), Reps d w O xs cs → Reps d w O (xs.drop k) (cs.drop (k * d.sz))
  | xs, cs, 0, h => by simpa using h
  | [], cs, k + 1, h => by rw [show cs = [] from h]; exact (List.drop_nil)
  | x :: xs, cs, k + 1, ⟨c, r, e, h, hr⟩ => by
    have hc := d.len h
    rw [e, List.drop_succ_cons, show (k + 1) * d.sz = c.length + k * d.sz by rw [hc, Nat.add_mul]; omega, drop_add]
    exact hr.drop k
theorem Reps.take : ∀ {xs : List α} {cs : List Value} (k : Nat), Reps d w O xs cs → Reps d w O (xs.take k) (cs.take (k * d.sz))
  | xs, cs, 0, h => by simp [Reps]
  | [], cs, k + 1, h => by rw [show cs = [] from h]; exact (List.take_nil)
  | x :: xs, cs, k + 1, ⟨c, r, e, h, hr⟩ => by
    have hc := d.len h
    rw [e, List.take_succ_cons, show (k + 1) * d.sz = c.length + k * d.sz by rw [hc, Nat.add_mul]; omega, take_add]
    exact ⟨c, _, rfl, h, hr.take k⟩
theorem Reps.at_ {k : Nat} (h : Reps d w O xs cs) (hk : k < xs.length) : d.rel w O xs[k] ((cs.drop (k * d.sz)).take d.sz) := by
  have h1 := h.drop k
  rw [List.drop_eq_getElem_cons hk] at h1
  obtain ⟨c, r, e, h2, _⟩ := h1
  rw [e, List.take_append, List.take_of_length_le (by have := d.len h2; omega), show d.sz - c.length = 0 by have := d.len h2; omega]
  simpa using h2
theorem Reps.set : ∀ {xs : List α} {cs : List Value} (k : Nat) (x : α) (c : List Value), Reps d w O xs cs → d.rel w O x c → k < xs.length →
    Reps d w O (xs.set k x) (cs.take (k * d.sz) ++ c ++ cs.drop ((k + 1) * d.sz))
  | [], cs, k, x, c, h, hx, hk => by simp at hk
  | y :: ys, cs, 0, x, c, ⟨c0, r, e, h, hr⟩, hx, hk => by
    have hc := d.len h
    subst e
    refine ⟨c, r, ?_, hx, hr⟩
    simp [← hc]
  | y :: ys, cs, k + 1, x, c, ⟨c0, r, e, h, hr⟩, hx, hk => by
    have hc := d.len h
    refine ⟨c0, _, ?_, h, hr.set k x c hx (by simpa using hk)⟩
    subst e
    have t1 : (c0 ++ r).take ((k + 1) * d.sz) = c0 ++ r.take (k * d.sz) := by rw [show (k + 1) * d.sz = c0.length + k * d.sz by rw [hc, Nat.add_mul]; omega, take_add]
    have t2 : (c0 ++ r).drop ((k + 1 + 1) * d.sz) = r.drop ((k + 1) * d.sz) := by rw [show (k + 1 + 1) * d.sz = c0.length + (k + 1) * d.sz by rw [hc]; simp only [Nat.add_mul]; omega, drop_add]
    rw [t1, t2]
    simp only [List.append_assoc]
end

/-- The slice value v reads as the list xs; no block of O is met. -/
def Sl {α : Type} (d : Kd α) (w : World) (O : Nat → Prop) (v : Value) (xs : List α) : Prop :=
  ∃ (A : Option Addr) (c : Nat), v = .slice A xs.length c ∧ xs.length ≤ c ∧ c ≤ maxLen ∧
    (xs ≠ [] → ∃ (a : Addr) (cs : List Value), A = some a ∧ ¬ O a.block ∧ Reps d w O xs cs ∧ ∀ j u, cs[j]? = some u → w.cell? (a.add j) = some u)

section
variable {α : Type} {d : Kd α} {w w' : World} {O O' : Nat → Prop} {v : Value} {xs : List α}
theorem Sl.nil_ (d : Kd α) (w : World) (O : Nat → Prop) : Sl d w O (.slice none 0 0) [] := ⟨none, 0, rfl, Nat.le_refl _, Nat.zero_le _, fun h => absurd rfl h⟩
theorem Sl.anti (h : Sl d w O v xs) (hO : ∀ k, O' k → O k) : Sl d w O' v xs := by
  obtain ⟨A, c, e, hl, hc, h⟩ := h
  refine ⟨A, c, e, hl, hc, fun hx => ?_⟩
  obtain ⟨a, cs, ha, hn, hr, hcell⟩ := h hx
  exact ⟨a, cs, ha, fun ho => hn (hO _ ho), hr.anti hO, hcell⟩
theorem Sl.more (hs : 0 < d.sz) (h : Sl d w O v xs) : Sl d w (fun k => O k ∨ w.heap.size ≤ k) v xs := by
  obtain ⟨A, c, e, hl, hc, h⟩ := h
  refine ⟨A, c, e, hl, hc, fun hx => ?_⟩
  obtain ⟨a, cs, ha, hn, hr, hcell⟩ := h hx
  refine ⟨a, cs, ha, ?_, hr.more, hcell⟩
  have hlen : 0 < cs.length := by
    rw [hr.len]
    exact Nat.mul_pos (List.length_pos_iff.2 hx) hs
  have := World.block_lt_of_cell? w _ (hcell 0 _ (List.getElem?_eq_getElem hlen))
  rw [addr_block] at this
  rintro (ho | ho)
  · exact hn ho
  · omega
theorem Sl.keep (hs : 0 < d.sz) (h : Sl d w O v xs) (hk : Keeps O w w') : Sl d w' O v xs := by
  obtain ⟨A, c, e, hl, hc, h⟩ := h
  refine ⟨A, c, e, hl, hc, fun hx => ?_⟩
  obtain ⟨a, cs, ha, hn, hr, hcell⟩ := h hx
  refine ⟨a, cs, ha, hn, hr.keep hk, fun j u hu => ?_⟩
  have h1 := hcell j u hu
  have hlt := World.block_lt_of_cell? w _ h1
  rw [World.cell?_of_block (w := w) (hk _ hlt (by rw [addr_block]; exact hn))]
  exact h1
theorem Sl.val (h : Sl d w O v xs) : ∃ A c, v = .slice A xs.length c ∧ xs.length ≤ c ∧ c ≤ maxLen := by
  obtain ⟨A, c, e, hl, hc, _⟩ := h
  exact ⟨A, c, e, hl, hc⟩
theorem Sl.len_ (h : Sl d w O v xs) : xs.length ≤ maxLen := by
  obtain ⟨A, c, e, hl, hc, _⟩ := h
  omega
theorem Sl.at_ {A : Option Addr} {n c k : Nat} (h : Sl d w O (.slice A n c) xs) (hk : k < xs.length) :
    ∃ (a : Addr) (cs : List Value), A = some a ∧ ¬ O a.block ∧ d.rel w O xs[k] cs ∧ ∀ j u, cs[j]? = some u → w.cell? (a.add (k * d.sz + j)) = some u := by
  obtain ⟨A', c', e, hl, hc, h⟩ := h
  injection e with e1 e2 e3
  subst e1
  obtain ⟨a, cs, ha, hn, hr, hcell⟩ := h (by rintro rfl; simp at hk)
  refine ⟨a, _, ha, hn, hr.at_ hk, fun j u hu => hcell _ u ?_⟩
  rw [List.getElem?_take] at hu
  split at hu
  · rw [List.getElem?_drop] at hu; exact hu
  · cases hu
end

/-- Slices, as a kind. -/
def Kd.sl {α : Type} (d : Kd α) (hs : 0 < d.sz) : Kd (List α) where
  sz := 1
  rel := fun w O xs cs => ∃ v, cs = [v] ∧ Sl d w O v xs
  len := by rintro w O x cs ⟨v, rfl, _⟩; rfl
  one := by
    rintro w O x cs ⟨v, rfl, A, c, rfl, _⟩ u hu
    rw [List.mem_singleton.1 hu]
    rfl
  anti := by rintro w O O' x cs hO ⟨v, rfl, h⟩; exact ⟨v, rfl, h.anti hO⟩
  more := by rintro w O x cs ⟨v, rfl, h⟩; exact ⟨v, rfl, h.more hs⟩
  keep := by rintro w w' O x cs hk ⟨v, rfl, h⟩; exact ⟨v, rfl, h.keep hs hk⟩

/-- One cell, by its word. -/
def Kd.cell {α : Type} (enc : α → Value) (h1 : ∀ x, (enc x).oneCell' = true) : Kd α where
  sz := 1
  rel := fun _ _ x cs => cs = [enc x]
  len := by rintro w O x cs rfl; rfl
  one := by rintro w O x cs rfl u hu; rw [List.mem_singleton.1 hu]; exact h1 x
  anti := fun _ h => h
  more := fun h => h
  keep := fun _ h => h

def Kd.prod {α β : Type} (a : Kd α) (b : Kd β) : Kd (α × β) where
  sz := a.sz + b.sz
  rel := fun w O x cs => ∃ c r, cs = c ++ r ∧ a.rel w O x.1 c ∧ b.rel w O x.2 r
  len := by rintro w O x cs ⟨c, r, rfl, h, h'⟩; rw [List.length_append, a.len h, b.len h']
  one := by
    rintro w O x cs ⟨c, r, rfl, h, h'⟩ u hu
    rcases List.mem_append.1 hu with hu | hu
    · exact a.one h u hu
    · exact b.one h' u hu
  anti := by rintro w O O' x cs hO ⟨c, r, rfl, h, h'⟩; exact ⟨c, r, rfl, a.anti hO h, b.anti hO h'⟩
  more := by rintro w O x cs ⟨c, r, rfl, h, h'⟩; exact ⟨c, r, rfl, a.more h, b.more h'⟩
  keep := by rintro w w' O x cs hk ⟨c, r, rfl, h, h'⟩; exact ⟨c, r, rfl, a.keep hk h, b.keep hk h'⟩

def Kd.iso {α β : Type} (a : Kd α) (f : β → α) : Kd β where
  sz := a.sz
  rel := fun w O x cs => a.rel w O (f x) cs
  len := a.len
  one := a.one
  anti := a.anti
  more := a.more
  keep := a.keep

def kU8 : Kd UInt8 := Kd.cell (fun x => .int .u8 x.toNat) (fun _ => rfl)
def kI64 : Kd Int := Kd.cell (fun x => .int .i64 x) (fun _ => rfl)
def kBool : Kd Bool := Kd.cell (fun x => .bool x) (fun _ => rfl)
abbrev kBytes : Kd (List UInt8) := Kd.sl kU8 (by decide)
abbrev kInts : Kd (List Int) := Kd.sl kI64 (by decide)

/-- A row of the call's own (from block base on), which reads as the list xs; its elements lead to no block of O, and not to the row. -/
def Own {α : Type} (d : Kd α) (e : TypeId) (w : World) (base : Nat) (O : Nat → Prop) (v : Value) (xs : List α) : Prop :=
  ∃ cs, w.ownsRow base e d.sz v xs.length cs ∧ Reps d w (fun k => O k ∨ v.ownBlock = some k) xs cs

section
variable {α : Type} {d : Kd α} {e : TypeId} {base : Nat} {w w' : World} {O O' : Nat → Prop} {v : Value} {xs : List α}
theorem Own.nil_ (d : Kd α) (e : TypeId) (w : World) (base : Nat) (O : Nat → Prop) : Own d e w base O (.slice none 0 0) [] := ⟨[], World.ownsRow_nil _ _ _ _, rfl⟩
theorem Own.lt (h : Own d e w base O v xs) : ∀ k, v.ownBlock = some k → base ≤ k ∧ k < w.heap.size := by
  obtain ⟨cs, h, _⟩ := h
  exact h.lt
theorem Own.anti (h : Own d e w base O v xs) (hO : ∀ k, O' k → O k) : Own d e w base O' v xs := by
  obtain ⟨cs, h, hr⟩ := h
  exact ⟨cs, h, hr.anti fun k hk => hk.imp (hO k) id⟩
theorem Own.more (h : Own d e w base O v xs) : Own d e w base (fun k => O k ∨ w.heap.size ≤ k) v xs := by
  obtain ⟨cs, h, hr⟩ := h
  exact ⟨cs, h, hr.more.anti fun k hk => by rcases hk with (hk | hk) | hk <;> simp [hk]⟩
theorem Own.weaken {base' : Nat} (h : Own d e w base O v xs) (hb : base' ≤ base) : Own d e w base' O v xs := by
  obtain ⟨cs, ⟨h1, h2⟩, hr⟩ := h
  refine ⟨cs, ⟨h1, ?_⟩, hr⟩
  rcases h2 with h2 | ⟨g, cap, cur, hv, hg, h⟩
  · exact .inl h2
  · exact .inr ⟨g, cap, cur, hv, Nat.le_trans hb hg, h⟩
theorem Own.keep (h : Own d e w base O v xs) (hk : Keeps O w w') (hown : ∀ k, v.ownBlock = some k → ¬ O k) : Own d e w' base O v xs := by
  obtain ⟨cs, ho, hr⟩ := h
  have hlt := ho.lt
  refine ⟨cs, ⟨ho.1, ?_⟩, hr.keep fun k hk1 hk2 => hk k hk1 fun h => hk2 (.inl h)⟩
  rcases ho.2 with h2 | ⟨g, cap, cur, rfl, hg, hh, h⟩
  · exact .inl h2
  · exact .inr ⟨g, cap, cur, rfl, hg, by rw [hk g (hlt g rfl).2 (hown g rfl)]; exact hh, h⟩
theorem Own.sl (h : Own d e w base O v xs) (hown : ∀ k, v.ownBlock = some k → ¬ O k) : Sl d w O v xs := by
  obtain ⟨cs, ho, hr⟩ := h
  rcases ho.2 with ⟨rfl, hn⟩ | ⟨g, cap, cur, rfl, hg, hh, hnc, hcm, _⟩
  · have : xs = [] := List.eq_nil_of_length_eq_zero hn
    subst this
    exact Sl.nil_ d w O
  · exact ⟨_, _, rfl, hnc, hcm, fun _ => ⟨_, cs, rfl, hown g rfl, hr.anti fun k hk => .inl hk, ho.cells (g := g) rfl⟩⟩
theorem Own.val (h : Own d e w base O v xs) : ∃ A c, v = .slice A xs.length c ∧ xs.length ≤ c ∧ c ≤ maxLen := by
  obtain ⟨cs, ho, hr⟩ := h
  rcases ho.2 with ⟨rfl, hn⟩ | ⟨g, cap, cur, rfl, hg, hh, hnc, hcm, _⟩
  · exact ⟨none, 0, by rw [hn], by omega, Nat.zero_le _⟩
  · exact ⟨_, _, rfl, hnc, hcm⟩
end
theorem keeps_of {w w' : World} (h : Below w.heap.size w w') (O : Nat → Prop) : Keeps O w w' := fun k hk _ => h.block k hk
theorem Keeps.of_grown {w w' : World} {row : Option Nat} {O : Nat → Prop} (h : w.grownBy w' row) (hO : ∀ k, row = some k → O k) : Keeps O w w' :=
  fun k hk hn => h.block k hk fun e => hn (hO k e.symm)
theorem Keeps.drewN (O : Nat → Prop) (w : World) (n : Nat) : Keeps O w (w.drewN n) := fun _ _ _ => rfl
theorem Keeps.alloc (O : Nat → Prop) (w : World) (o : Obj) : Keeps O w (w.alloc o) := fun k hk _ => Below.heap_alloc w o k hk

section
variable {P : Program} (w : World)
theorem run_append_nil' (base : Nat) (t ty e : TypeId) (i : TypeInfo) (size : Nat) (ht : P.underlying t = some (.slice e)) (hi : P.info? e = some i)
    (v : Value) (n : Nat) (xs : List Value) (hown : w.ownsRow base e size v n xs) (A : Option Addr) (c : Nat) : (Builtin.append_ #[t, t] ty #[v, .slice A 0 c]).run P w = .ok v w := by
  rcases hown.2 with ⟨rfl, rfl⟩ | ⟨g, cap, cur, rfl, _, _, hnc, _⟩ <;> cases A <;>
    simp [Builtin.append_, run_underlying ht, sizeOf, typeInfo, hi, Builtin.lenOf, Builtin.firstCells, loadCells, loadCellsFrom, *, storeCells]

/-- append(own, xs...), whatever xs is. -/
theorem run_append_sl {α : Type} {d : Kd α} {base : Nat} {t ty e : TypeId} {i : TypeInfo} {z : Value} (ht : P.underlying t = some (.slice e)) (hi : P.info? e = some i) (hz : i.zero = some z)
    (hsize : i.size = d.sz) (hzs : z.cells.size = d.sz) (hs : 0 < d.sz) {O : Nat → Prop} {v : Value} {xs ys : List α} (hown : Own d e w base O v xs)
    {A : Option Addr} {m c : Nat} {cs : List Value} (hm : m = ys.length) (hr : Reps d w (fun k => O k ∨ v.ownBlock = some k) ys cs)
    (hc : ys ≠ [] → ∃ a, A = some a ∧ ∀ j x, cs[j]? = some x → w.cell? (a.add j) = some x)
    (h63 : xs.length + ys.length ≤ maxLen) (hbytes : (xs.length + ys.length) * i.bytes ≤ 140737488355328) (hbase : base ≤ w.heap.size) :
    ∃ v' w', (Builtin.append_ #[t, t] ty #[v, .slice A m c]).run P w = .ok v' w' ∧ Own d e w' base O v' (xs ++ ys) ∧ w.grownBy w' v.ownBlock ∧ (v'.ownBlock = v.ownBlock ∨ v'.ownBlock = some w.heap.size) := by
  subst hm
  obtain ⟨cur, ho, hrx⟩ := hown
  by_cases hy : ys = []
  · subst hy
    refine ⟨v, w, run_append_nil' w base t ty e i d.sz ht hi v _ cur ho A c, ⟨cur, ?_, by simpa using hrx⟩, World.grownBy.refl w _, .inl rfl⟩
    simpa using ho
  · obtain ⟨a, rfl, hcell⟩ := hc hy
    obtain ⟨v', w', hrun, h2, h3, _, h5⟩ := run_append_own_at (P := P) w base t ty e i z d.sz i.bytes ht hi hz hsize rfl hzs hs v _ cur ho a ys.length c cs hr.len hcell hr.one h63 hbytes hbase
    refine ⟨v', w', hrun, ⟨cur ++ cs, by rw [List.length_append]; exact h2, ?_⟩, h3, h5⟩
    have hall := (hrx.append hr).more
    refine (hall.keep (w' := w') (fun k hk hn => h3.block k hk fun e => hn (.inl (.inr e.symm)))).anti fun k hk => ?_
    rcases hk with hk | hk
    · exact .inl (.inl hk)
    · rcases h5 with h5 | h5
      · exact .inl (.inr (h5 ▸ hk))
      · rw [h5] at hk; injection hk with hk; exact .inr (by omega)

/-- What was known beside the row is known behind the append. -/
theorem grown_keep {w w' : World} {v v' : Value} (h3 : w.grownBy w' v.ownBlock) (h5 : v'.ownBlock = v.ownBlock ∨ v'.ownBlock = some w.heap.size) {O : Nat → Prop} (hO : ∀ k, v.ownBlock = some k → O k)
    {α : Type} {d : Kd α} {x : α} {cs : List Value} (h : d.rel w O x cs) : d.rel w' (fun k => O k ∨ v'.ownBlock = some k) x cs := by
  refine d.anti (fun k hk => ?_) (d.keep (w' := w') (fun k hk hn => h3.block k hk fun e => hn (.inl (hO k e.symm))) (d.more h))
  rcases hk with hk | hk
  · exact .inl hk
  · rcases h5 with h5 | h5
    · exact .inl (hO k (h5 ▸ hk))
    · rw [h5] at hk; injection hk with hk; exact .inr (by omega)

theorem wp_append_sl {o : Oper} {a : Act} {K : Act → World → Prop} {Q : Exit → Act → World → Prop} (s x : Operand) (t : TypeId)
    (ho : o.op = .call { callee := .builtin .append, args := #[s, x], argTypes := #[t, t] })
    {α : Type} {d : Kd α} {base : Nat} {e : TypeId} {i : TypeInfo} {z : Value} (ht : P.underlying t = some (.slice e)) (hi : P.info? e = some i) (hz : i.zero = some z)
    (hsize : i.size = d.sz) (hzs : z.cells.size = d.sz) (hs : 0 < d.sz) {O : Nat → Prop} {v : Value} {xs ys : List α} (hsv : a.eval s = v) (hown : Own d e w base O v xs)
    {A : Option Addr} {m c : Nat} {cs : List Value} (hxv : a.eval x = .slice A m c) (hm : m = ys.length) (hr : Reps d w (fun k => O k ∨ v.ownBlock = some k) ys cs)
    (hc : ys ≠ [] → ∃ a, A = some a ∧ ∀ j x, cs[j]? = some x → w.cell? (a.add j) = some x)
    (h63 : xs.length + ys.length ≤ maxLen) (hbytes : (xs.length + ys.length) * i.bytes ≤ 140737488355328) (hbase : base ≤ w.heap.size)
    (h : ∀ v' w', Own d e w' base O v' (xs ++ ys) → w.grownBy w' v.ownBlock → (v'.ownBlock = v.ownBlock ∨ v'.ownBlock = some w.heap.size) → K (a.put o.dst v') w') : o.wp P a w K Q := by
  obtain ⟨v', w', hrun, h2, h3, h4⟩ := run_append_sl (P := P) w (ty := o.type) ht hi hz hsize hzs hs hown (c := c) hm hr hc h63 hbytes hbase
  unfold Oper.wp execOp
  simp only [ho, resolve, invoke, builtin, Sem.run_bind, Sem.run_pure, Result.andThen_ok, List.map_toArray, List.map_cons, List.map_nil, hsv, hxv, hrun]
  exact h v' w' h2 h3 h4
end

section
variable {P : Program} {w : World}
theorem wpList_append_sl {ops : Array Oper} {rest : List Oper} {o : Oper} {a : Act} {Q : Exit → Act → World → Prop} (hgd : o.guard = none) (s x : Operand) (t : TypeId)
    (ho : o.op = .call { callee := .builtin .append, args := #[s, x], argTypes := #[t, t] })
    {α : Type} {d : Kd α} {base : Nat} {e : TypeId} {i : TypeInfo} {z : Value} (ht : P.underlying t = some (.slice e)) (hi : P.info? e = some i) (hz : i.zero = some z)
    (hsize : i.size = d.sz) (hzs : z.cells.size = d.sz) (hs : 0 < d.sz) {O : Nat → Prop} {v : Value} {xs ys : List α} (hsv : a.eval s = v) (hown : Own d e w base O v xs)
    {A : Option Addr} {m c : Nat} {cs : List Value} (hxv : a.eval x = .slice A m c) (hm : m = ys.length) (hr : Reps d w (fun k => O k ∨ v.ownBlock = some k) ys cs)
    (hc : ys ≠ [] → ∃ a, A = some a ∧ ∀ j x, cs[j]? = some x → w.cell? (a.add j) = some x)
    (h63 : xs.length + ys.length ≤ maxLen) (hbytes : (xs.length + ys.length) * i.bytes ≤ 140737488355328) (hbase : base ≤ w.heap.size)
    (h : ∀ v' w', Own d e w' base O v' (xs ++ ys) → w.grownBy w' v.ownBlock → (v'.ownBlock = v.ownBlock ∨ v'.ownBlock = some w.heap.size) → wpList P ops Q rest (a.put o.dst v') w') : wpList P ops Q (o :: rest) a w :=
  wpList_plain hgd fun _ hK => wp_append_sl w s x t ho ht hi hz hsize hzs hs hsv hown hxv hm hr hc h63 hbytes hbase fun v' w' h1 h2 h3 => hK _ _ (h v' w' h1 h2 h3)
end
/-- What Sl tells of a slice that is to be appended. -/
theorem Sl.news {α : Type} {d : Kd α} {w : World} {O : Nat → Prop} {A : Option Addr} {n c : Nat} {xs : List α} (h : Sl d w O (.slice A n c) xs) :
    ∃ cs, Reps d w O xs cs ∧ (xs ≠ [] → ∃ a, A = some a ∧ ∀ j x, cs[j]? = some x → w.cell? (a.add j) = some x) := by
  obtain ⟨A', c', e, hl, hc, h⟩ := h
  injection e with e1 e2 e3
  subst e1
  by_cases hx : xs = []
  · subst hx; exact ⟨[], rfl, fun h => absurd rfl h⟩
  · obtain ⟨a, cs, ha, _, hr, hcell⟩ := h hx
    exact ⟨cs, hr, fun _ => ⟨a, ha, hcell⟩⟩
theorem Own.made {α : Type} (d : Kd α) (e : TypeId) (w : World) (base : Nat) (O : Nat → Prop) (hb : base ≤ w.heap.size) : Own d e (w.alloc (.cells #[] e)) base O (.slice (some ⟨w.heap.size, 0, none⟩) 0 0) [] :=
  ⟨[], World.ownsRow_made w #[] 0 hb (by unfold maxLen; omega) (by simp), rfl⟩

/-- What was known when the call began is known later: of a slice that came in. -/
theorem Sl.later {α : Type} {d : Kd α} (hs : 0 < d.sz) {w0 w : World} {O : Nat → Prop} {v : Value} {xs : List α} (h : Sl d w0 O v xs) (hb : Below w0.heap.size w0 w) : Sl d w (fun k => O k ∨ w0.heap.size ≤ k) v xs :=
  (h.more hs).keep hs (keeps_of hb _)
theorem Kd.later {α : Type} (d : Kd α) {w0 w : World} {O : Nat → Prop} {x : α} {cs : List Value} (h : d.rel w0 O x cs) (hb : Below w0.heap.size w0 w) : d.rel w (fun k => O k ∨ w0.heap.size ≤ k) x cs :=
  d.keep (keeps_of hb _) (d.more h)

/-- The call began at w0 and stands at w: it owns the row v, which reads as xs; nothing that was there has turned. -/
def Out {α : Type} (d : Kd α) (e : TypeId) (w0 w : World) (O : Nat → Prop) (v : Value) (xs : List α) : Prop := Own d e w w0.heap.size O v xs ∧ Below w0.heap.size w0 w
section
variable {α : Type} {d : Kd α} {e : TypeId} {w0 w w' : World} {O O' : Nat → Prop} {v : Value} {xs ys : List α}
theorem Out.start (d : Kd α) (e : TypeId) (w : World) (O : Nat → Prop) : Out d e w w O (.slice none 0 0) [] := ⟨Own.nil_ _ _ _ _ _, Below.refl _ _⟩
theorem Out.nil_ (hb : Below w0.heap.size w0 w) : Out d e w0 w O (.slice none 0 0) [] := ⟨Own.nil_ _ _ _ _ _, hb⟩
theorem Out.made (hb : Below w0.heap.size w0 w) : Out d e w0 (w.alloc (.cells #[] e)) O (.slice (some ⟨w.heap.size, 0, none⟩) 0 0) [] :=
  ⟨Own.made _ _ _ _ _ hb.size, hb.alloc hb.size _⟩
theorem Out.step (h : Out d e w0 w O v xs) (hb : Below w.heap.size w w') (hO : ∀ k, O k → k < w0.heap.size) : Out d e w0 w' O v xs :=
  ⟨h.1.keep (keeps_of hb _) (fun k hk ho => by have := (h.1.lt k hk).1; have := hO k ho; omega), h.2.trans (hb.mono h.2.size)⟩
theorem Out.alloc (h : Out d e w0 w O v xs) (o : Obj) (hO : ∀ k, O k → k < w0.heap.size) : Out d e w0 (w.alloc o) O v xs := h.step ((Below.refl _ _).alloc (Nat.le_refl _) _) hO
theorem Out.anti (h : Out d e w0 w O v xs) (hO : ∀ k, O' k → O k) : Out d e w0 w O' v xs := ⟨h.1.anti hO, h.2⟩
theorem Out.sl (h : Out d e w0 w O v xs) (hO : ∀ k, O k → k < w0.heap.size) : Sl d w O v xs := h.1.sl fun k hk ho => by have := (h.1.lt k hk).1; have := hO k ho; omega
theorem Out.val (h : Out d e w0 w O v xs) : ∃ A c, v = .slice A xs.length c ∧ xs.length ≤ c ∧ c ≤ maxLen := h.1.val
theorem Out.mono {w1 : World} (h : Out d e w1 w O v xs) (hb : Below w0.heap.size w0 w1) : Out d e w0 w O v xs := ⟨h.1.weaken hb.size, hb.trans (h.2.mono hb.size)⟩
theorem lit_cells (w : World) (cells : Array Value) (e : TypeId) : ∀ j x, cells.toList[j]? = some x → (w.alloc (.cells cells e)).cell? ((⟨w.heap.size, 0, none⟩ : Addr).add j) = some x := by
  intro j x hj
  have : (⟨w.heap.size, 0, none⟩ : Addr).add j = ⟨w.heap.size, j, none⟩ := by unfold Addr.add; split <;> simp_all
  rw [this, cell_of_row _ _ j cells e (0, 0) (heap_alloc_new w _)]
  simpa using hj
/-- append(out, x, y, ..): the literal lies in a block of its own. -/
theorem wpList_append_lit {P : Program} {ops : Array Oper} {rest : List Oper} {o : Oper} {a : Act} {Q : Exit → Act → World → Prop} (hgd : o.guard = none) (s x : Operand) (t : TypeId)
    (ho : o.op = .call { callee := .builtin .append, args := #[s, x], argTypes := #[t, t] })
    {i : TypeInfo} {z : Value} (ht : P.underlying t = some (.slice e)) (hi : P.info? e = some i) (hz : i.zero = some z)
    (hsize : i.size = d.sz) (hzs : z.cells.size = d.sz) (hs : 0 < d.sz) (hsv : a.eval s = v) (hown : Out d e w0 w O v xs) (hO : ∀ k, O k → k < w0.heap.size)
    {m : Nat} {cells : Array Value} (hxv : a.eval x = .slice (some ⟨w.heap.size, 0, none⟩) m m) (hm : m = ys.length) (hr : Reps d w (fun k => O k ∨ v.ownBlock = some k) ys cells.toList)
    (h63 : xs.length + ys.length ≤ maxLen) (hbytes : (xs.length + ys.length) * i.bytes ≤ 140737488355328)
    (h : ∀ v' w', Out d e w0 w' O v' (xs ++ ys) → w.grownBy w' v.ownBlock → (∀ k, v'.ownBlock = some k → v.ownBlock = some k ∨ w.heap.size ≤ k) → wpList P ops Q rest (a.put o.dst v') w') :
    wpList P ops Q (o :: rest) a (w.alloc (.cells cells e)) := by
  have h1 := hown.alloc (.cells cells e) hO
  refine wpList_append_sl hgd s x t ho ht hi hz hsize hzs hs hsv h1.1 hxv hm (hr.keep (Keeps.alloc _ _ _)) (fun _ => ⟨_, rfl, lit_cells w cells e⟩) h63 hbytes h1.2.size fun v' w' h2 h3 h4 => ?_
  refine h v' w' ⟨h2, h1.2.grown h3 h1.2.size fun k hk => (h1.1.lt k hk).1⟩ ⟨h3.os, h3.tape, h3.output, Nat.le_trans (by simp) h3.size, fun k hk hn => (h3.block k (by simp; omega) hn).trans (Below.heap_alloc w _ k hk)⟩ fun k hk => ?_
  rcases h4 with h4 | h4
  · exact .inl (h4 ▸ hk)
  · rw [h4] at hk; injection hk with hk; simp at hk; exact .inr (by omega)
/-- append(out, xs...). -/
theorem wpList_append_any {P : Program} {ops : Array Oper} {rest : List Oper} {o : Oper} {a : Act} {Q : Exit → Act → World → Prop} (hgd : o.guard = none) (s x : Operand) (t : TypeId)
    (ho : o.op = .call { callee := .builtin .append, args := #[s, x], argTypes := #[t, t] })
    {i : TypeInfo} {z : Value} (ht : P.underlying t = some (.slice e)) (hi : P.info? e = some i) (hz : i.zero = some z)
    (hsize : i.size = d.sz) (hzs : z.cells.size = d.sz) (hs : 0 < d.sz) (hsv : a.eval s = v) (hown : Out d e w0 w O v xs) {u : Value} (hxv : a.eval x = u) (hu : Sl d w (fun k => O k ∨ v.ownBlock = some k) u ys)
    (h63 : xs.length + ys.length ≤ maxLen) (hbytes : (xs.length + ys.length) * i.bytes ≤ 140737488355328)
    (h : ∀ v' w', Out d e w0 w' O v' (xs ++ ys) → w.grownBy w' v.ownBlock → (∀ k, v'.ownBlock = some k → v.ownBlock = some k ∨ w.heap.size ≤ k) → wpList P ops Q rest (a.put o.dst v') w') :
    wpList P ops Q (o :: rest) a w := by
  obtain ⟨A, c, rfl, hl, hc⟩ := hu.val
  obtain ⟨cs, hr, hcell⟩ := hu.news
  refine wpList_append_sl hgd s x t ho ht hi hz hsize hzs hs hsv hown.1 hxv rfl hr hcell h63 hbytes hown.2.size fun v' w' h2 h3 h4 => ?_
  refine h v' w' ⟨h2, hown.2.grown h3 hown.2.size fun k hk => (hown.1.lt k hk).1⟩ h3 fun k hk => ?_
  rcases h4 with h4 | h4
  · exact .inl (h4 ▸ hk)
  · rw [h4] at hk; injection hk with hk; exact .inr (by omega)
/-- A slice that came in does not meet the row. -/
theorem Out.par (hown : Out d e w0 w O v xs) {β : Type} {d' : Kd β} (hs : 0 < d'.sz) {u : Value} {zs : List β} (h : Sl d' w0 O u zs) : Sl d' w (fun k => O k ∨ v.ownBlock = some k) u zs :=
  (h.later hs hown.2).anti fun k hk => hk.imp id fun hk => (hown.1.lt k hk).1
end

/-! cuts of a slice -/
section
variable {P : Program} {α : Type} {d : Kd α} {w : World} {O : Nat → Prop} {xs : List α} {A : Option Addr} {n c : Nat}
theorem Sl.cut (h : Sl d w O (.slice A n c) xs) {lo hi m : Nat} (h1 : lo ≤ hi) (h2 : hi ≤ xs.length) (h3 : hi ≤ m) (h4 : m ≤ c) :
    Sl d w O (.slice (if m = lo then A else A.map (·.add (lo * d.sz))) (hi - lo) (m - lo)) ((xs.take hi).drop lo) := by
  obtain ⟨A', c', e, hl, hc, h⟩ := h
  injection e with e1 e2 e3
  subst e1 e2 e3
  have hlen : ((xs.take hi).drop lo).length = hi - lo := by rw [List.length_drop, List.length_take, Nat.min_eq_left h2]
  refine ⟨_, _, by rw [hlen], by rw [hlen]; omega, by omega, fun hx => ?_⟩
  have hpos : lo < hi := by
    rcases Nat.lt_or_ge lo hi with h | h
    · exact h
    · exact absurd (List.eq_nil_of_length_eq_zero (by rw [hlen]; omega)) hx
  obtain ⟨a, cs, rfl, hn, hr, hcell⟩ := h (by rintro rfl; simp at h2; omega)
  rw [if_neg (by omega)]
  refine ⟨_, _, rfl, by rw [addr_block]; exact hn, (hr.take hi).drop lo, fun j u hu => ?_⟩
  rw [addr_add]
  refine hcell _ u ?_
  rw [List.getElem?_drop, List.getElem?_take] at hu
  split at hu
  · exact hu
  · cases hu
variable {t e : TypeId} {i : TypeInfo} (ht : P.underlying t = some (.slice e)) (hin : P.info? e = some i) (hs : i.size = d.sz) (h : Sl d w O (.slice A n c) xs)
include ht hin hs h
theorem run_cut {lo hi mx : Option Value} {l k m : Nat} (hb : ∀ w', (Instr.sliceBounds true n c lo hi mx).run P w' = .ok (l, k, m) w') (h1 : l ≤ k) (h2 : k ≤ xs.length) (h3 : k ≤ m) (h4 : m ≤ c) :
    ∃ A' c', (∀ w', (Instr.sliceAt t (.slice A n c) lo hi mx).run P w' = .ok (.slice A' (k - l) c') w') ∧ Sl d w O (.slice A' (k - l) c') ((xs.take k).drop l) := by
  refine ⟨_, _, fun w' => ?_, h.cut h1 h2 h3 h4⟩
  simp [Instr.sliceAt, run_underlying ht, Instr.slice, hb w', sizeOf, typeInfo, hin, hs]
theorem cut_lh {kl kh : IntKind} {l k : Int} (h0 : 0 ≤ l) (h1 : l ≤ k) (h2 : k ≤ xs.length) :
    ∃ A' c', (∀ w', (Instr.sliceAt t (.slice A n c) (some (.int kl l)) (some (.int kh k)) none).run P w' = .ok (.slice A' (k.toNat - l.toNat) c') w') ∧ Sl d w O (.slice A' (k.toNat - l.toNat) c') ((xs.take k.toNat).drop l.toNat) := by
  have hc : xs.length ≤ c := by obtain ⟨A', c', e, hl, _⟩ := h; injection e with _ _ e; omega
  refine run_cut ht hin hs h (m := c) (fun w' => ?_) (by omega) (by omega) (by omega) (Nat.le_refl _)
  have ek : (k.toNat : Int) = k := Int.toNat_of_nonneg (by omega)
  simp [Instr.sliceBounds, run_sliceBound, *, (by omega : 0 ≤ k), (by omega : k ≤ (c : Int))]
theorem cut_h {kh : IntKind} {k : Int} (h0 : 0 ≤ k) (h2 : k ≤ xs.length) :
    ∃ A' c', (∀ w', (Instr.sliceAt t (.slice A n c) none (some (.int kh k)) none).run P w' = .ok (.slice A' k.toNat c') w') ∧ Sl d w O (.slice A' k.toNat c') (xs.take k.toNat) := by
  have hc : xs.length ≤ c := by obtain ⟨A', c', e, hl, _⟩ := h; injection e with _ _ e; omega
  have := run_cut ht hin hs h (lo := none) (hi := some (.int kh k)) (mx := none) (l := 0) (k := k.toNat) (m := c) (fun w' => ?_) (by omega) (by omega) (by omega) (Nat.le_refl _)
  · simpa using this
  · simp [Instr.sliceBounds, run_sliceBound, *, (by omega : k ≤ (c : Int))]
theorem cut_l {kl : IntKind} {l : Int} (h0 : 0 ≤ l) (h1 : l ≤ xs.length) :
    ∃ A' c', (∀ w', (Instr.sliceAt t (.slice A n c) (some (.int kl l)) none none).run P w' = .ok (.slice A' (xs.length - l.toNat) c') w') ∧ Sl d w O (.slice A' (xs.length - l.toNat) c') (xs.drop l.toNat) := by
  have hc : n = xs.length ∧ xs.length ≤ c := by obtain ⟨A', c', e, hl, _⟩ := h; injection e with _ e1 e; omega
  obtain ⟨rfl, hc⟩ := hc
  have := run_cut ht hin hs h (lo := some (.int kl l)) (hi := none) (mx := none) (l := l.toNat) (k := xs.length) (m := c) (fun w' => ?_) (by omega) (by omega) hc (Nat.le_refl _)
  · simpa using this
  · simp [Instr.sliceBounds, run_sliceBound, *]
theorem cut_lhm {kl kh km : IntKind} {l k m : Int} (h0 : 0 ≤ l) (h1 : l ≤ k) (h2 : k ≤ xs.length) (h3 : k ≤ m) (h4 : m ≤ c) :
    ∃ A' c', (∀ w', (Instr.sliceAt t (.slice A n c) (some (.int kl l)) (some (.int kh k)) (some (.int km m))).run P w' = .ok (.slice A' (k.toNat - l.toNat) c') w') ∧ Sl d w O (.slice A' (k.toNat - l.toNat) c') ((xs.take k.toNat).drop l.toNat) := by
  refine run_cut ht hin hs h (m := m.toNat) (fun w' => ?_) (by omega) (by omega) (by omega) (by omega)
  have ek : (k.toNat : Int) = k := Int.toNat_of_nonneg (by omega)
  have em : (m.toNat : Int) = m := Int.toNat_of_nonneg (by omega)
  simp [Instr.sliceBounds, run_sliceBound, *, (by omega : 0 ≤ k), (by omega : 0 ≤ m)]
end
theorem Reps.u8_map {w : World} {O : Nat → Prop} : ∀ {xs : List UInt8} {cs : List Value}, Reps kU8 w O xs cs ↔ cs = xs.map fun x => .int .u8 x.toNat
  | [], cs => Iff.rfl
  | x :: xs, cs => ⟨fun ⟨c, r, e, h, hr⟩ => by rw [e, show c = [.int .u8 x.toNat] from h, Reps.u8_map.1 hr]; rfl,
      fun h => ⟨[.int .u8 x.toNat], _, h, rfl, Reps.u8_map.2 rfl⟩⟩
/-- The cells of element k, at the address as the walk reckons it. -/
theorem Sl.cells_at {α : Type} {d : Kd α} (hs : 0 < d.sz) {w : World} {O : Nat → Prop} {A : Option Addr} {n c k : Nat} {xs : List α} (h : Sl d w O (.slice A n c) xs) (hk : k < xs.length) :
    ∃ (g o : Nat) (cs : List Value), A = some ⟨g, o, none⟩ ∧ ¬ O g ∧ d.rel w O xs[k] cs ∧ ∀ j u, cs[j]? = some u → w.cell? ⟨g, o + (k * d.sz + j), none⟩ = some u := by
  obtain ⟨a, cs, rfl, hn, hr, hc⟩ := h.at_ hk
  obtain ⟨a0, cs0, e0, _, hr0, hc0⟩ := h.at_ (k := 0) (by omega)
  injection e0 with e0
  subst e0
  have h0 : ∃ u, w.cell? a = some u := by
    have := hc0 0 _ (List.getElem?_eq_getElem (by rw [d.len hr0]; exact hs))
    simp [Addr.add] at this
    exact ⟨_, this⟩
  obtain ⟨g, o, sp⟩ := a
  obtain ⟨u0, h0⟩ := h0
  have hsp : sp = none := by
    unfold World.cell? at h0
    split at h0
    · split at h0
      · cases h0
      · rename_i hh; simpa using hh
    · cases h0
  subst hsp
  refine ⟨g, o, cs, rfl, hn, hr, fun j u hu => ?_⟩
  have := hc j u hu
  unfold Addr.add at this
  split at this
  · rename_i hz; rw [hz]; exact this
  · exact this
theorem Sl.byte {w : World} {O : Nat → Prop} {A : Option Addr} {n c k : Nat} {b : List UInt8} (h : Sl kU8 w O (.slice A n c) b) (hk : k < b.length) :
    ∃ g o, A = some ⟨g, o, none⟩ ∧ w.cell? ⟨g, o + k, none⟩ = some (.int .u8 b[k].toNat) := by
  obtain ⟨g, o, cs, ha, _, hr, hc⟩ := h.cells_at (by decide) hk
  refine ⟨g, o, ha, ?_⟩
  have := hc 0 (.int .u8 b[k].toNat) (by rw [show cs = _ from hr]; rfl)
  simpa [kU8, Kd.cell] using this
theorem Sl.byte' {w : World} {O : Nat → Prop} {g o n c k : Nat} {b : List UInt8} (h : Sl kU8 w O (.slice (some ⟨g, o, none⟩) n c) b) (hk : k < b.length) : w.cell? ⟨g, o + k, none⟩ = some (.int .u8 b[k].toNat) := by
  obtain ⟨g', o', e, h⟩ := h.byte hk
  cases e
  exact h

/-! bits of int -/
theorem ofInt_i64 (a : Nat) (ha : a < 9223372036854775808) : (BitVec.ofInt 64 (a : Int)).toNat = a := by
  rw [BitVec.ofInt_natCast, BitVec.toNat_ofNat]; exact Nat.mod_eq_of_lt (by omega)
theorem i64_or_nat (a b : Nat) (ha : a < 9223372036854775808) (hb : b < 9223372036854775808) : bits .or .i64 (a : Int) (b : Int) = ((a ||| b : Nat) : Int) := by
  have hx : a ||| b < 2 ^ 63 := Nat.or_lt_two_pow (by omega) (by omega)
  show IntKind.i64.wrap ((BitVec.ofInt 64 (a : Int) ||| BitVec.ofInt 64 (b : Int)).toNat : Int) = _
  rw [BitVec.toNat_or, ofInt_i64 a ha, ofInt_i64 b hb, IntKind.wrap_i64]
  omega
theorem i64_and_nat (a b : Nat) (ha : a < 9223372036854775808) (hb : b < 9223372036854775808) : bits .and .i64 (a : Int) (b : Int) = ((a &&& b : Nat) : Int) := by
  have hx : a &&& b < 2 ^ 63 := Nat.and_lt_two_pow _ (by omega)
  show IntKind.i64.wrap ((BitVec.ofInt 64 (a : Int) &&& BitVec.ofInt 64 (b : Int)).toNat : Int) = _
  rw [BitVec.toNat_and, ofInt_i64 a ha, ofInt_i64 b hb, IntKind.wrap_i64]
  omega
/-- An octet laid behind a number that was moved by eight bits. -/
theorem or_byte (n : Int) (x : UInt8) (h0 : 0 ≤ n) (h1 : n ≤ 1099511627776) : bits .or .i64 (n * 256) x.toNat = n * 256 + x.toNat := by
  obtain ⟨m, rfl⟩ := Int.eq_ofNat_of_zero_le h0
  have hx := UInt8.toNat_lt x
  rw [show ((m : Int) * 256) = ((m * 256 : Nat) : Int) by omega, i64_or_nat _ _ (by omega) (by omega)]
  have := Nat.shiftLeft_add_eq_or_of_lt (a := m) (b := x.toNat) (i := 8) (by omega)
  simp only [Nat.shiftLeft_eq, Nat.reducePow] at this
  omega

/-! literals; octets as strings -/
theorem Sl.lit {α : Type} {d : Kd α} {w : World} {O : Nat → Prop} {cells : Array Value} {xs : List α} {m : Nat} (e : TypeId) (h : Reps d w O xs cells.toList) (hn : m = xs.length) (hm : m ≤ maxLen) (hO : ∀ k, O k → k < w.heap.size) :
    Sl d (w.alloc (.cells cells e)) O (.slice (some ⟨w.heap.size, 0, none⟩) m m) xs := by
  subst hn
  exact ⟨_, _, rfl, Nat.le_refl _, hm, fun _ => ⟨_, cells.toList, rfl, fun ho => by have := hO _ ho; simp at this, h.keep (Keeps.alloc _ _ _), lit_cells w cells e⟩⟩
def str (l : List UInt8) : ByteArray := ⟨l.toArray⟩
theorem str_inj {a b : List UInt8} (h : str a = str b) : a = b := by
  unfold str at h
  injection h with h
  simpa using h
theorem run_conv {P : Program} {src dst e : TypeId} (hs : P.underlying src = some (.slice e)) (he : P.underlying e = some (.int .u8)) (hd : P.underlying dst = some .string) {w : World} {O : Nat → Prop} {v : Value} {b : List UInt8} (h : Sl kU8 w O v b) :
    (convert src dst v).run P w = .ok (.string (str b)) w := by
  obtain ⟨A, c, rfl, hl, hc⟩ := h.val
  cases A with
  | none =>
    have hb : b = [] := by
      by_cases hb : b = []
      · exact hb
      · obtain ⟨_, _, e, _⟩ := h.byte (k := 0) (by have := List.length_pos_iff.2 hb; omega)
        cases e
    subst hb
    rw [run_convert_bytes_nil w src e hs he _ _ dst hd]
    rfl
  | some a =>
    refine run_convert_bytes_back w src dst e a c b hs he hd fun j hj => ?_
    obtain ⟨a', cs, ha, _, hr, hcell⟩ := h.at_ hj
    injection ha with ha
    subst ha
    have := hcell 0 (.int .u8 b[j].toNat) (by rw [show cs = _ from hr]; rfl)
    simpa [kU8, Kd.cell] using this
@[go_sem] theorem str_toList (l : List UInt8) : (str l).toList = l := by unfold str; simp
@[go_sem] theorem str_size (l : List UInt8) : (str l).size = l.length := by simp [str, ByteArray.size]
@[go_sem] theorem str_append (a b : List UInt8) : str a ++ str b = str (a ++ b) := by apply ByteArray.ext; simp [str]
theorem run_streq {P : Program} (t : TypeId) (a b : List UInt8) (w : World) : (binOp .eql t (.string (str a)) (.string (str b))).run P w = .ok (.bool (a == b)) w := by
  rw [binOp_string_eql]
  have : ∀ l : List UInt8, (str l).toList = l := fun l => by unfold str; simp
  rw [this, this]; rfl
end
end Go.Proofs.YthdckgcalooipaaDoor
namespace Go.Proofs.YthdckgcalooipaaDoor
section
open Go.RowKit
set_option linter.unusedVariables false
set_option linter.unusedSimpArgs false
/-- A word, as the model's number: a name of its own, so that simp leaves it alone. -/
def wv (x : UInt32) : Int := (x.toNat : Int)
theorem wv_lt (x : UInt32) : wv x < 4294967296 := by have := x.toNat_lt; unfold wv; omega
theorem wv_pos (x : UInt32) : 0 ≤ wv x := by unfold wv; omega
theorem wv_inj {a b : UInt32} (h : wv a = wv b) : a = b := by unfold wv at h; exact UInt32.toNat_inj.1 (by omega)
theorem ofInt_u32 (a : UInt32) : BitVec.ofInt 32 (wv a) = a.toBitVec := by
  unfold wv; rw [BitVec.ofInt_natCast]; apply BitVec.eq_of_toNat_eq; have := a.toNat_lt; simp
theorem wrap_wv (a : UInt32) : IntKind.u32.wrap (wv a) = wv a := by
  have := a.toNat_lt; rw [IntKind.wrap_u32]; unfold wv; omega
@[go_sem] theorem wv_xor (a b : UInt32) : bits .xor .u32 (wv a) (wv b) = wv (a ^^^ b) := by
  show IntKind.u32.wrap ((BitVec.ofInt 32 (wv a) ^^^ BitVec.ofInt 32 (wv b)).toNat : Int) = _
  rw [ofInt_u32, ofInt_u32]
  exact wrap_wv (a ^^^ b)
@[go_sem] theorem wv_and (a b : UInt32) : bits .and .u32 (wv a) (wv b) = wv (a &&& b) := by
  show IntKind.u32.wrap ((BitVec.ofInt 32 (wv a) &&& BitVec.ofInt 32 (wv b)).toNat : Int) = _
  rw [ofInt_u32, ofInt_u32]
  exact wrap_wv (a &&& b)
@[go_sem] theorem wv_or (a b : UInt32) : bits .or .u32 (wv a) (wv b) = wv (a ||| b) := by
  show IntKind.u32.wrap ((BitVec.ofInt 32 (wv a) ||| BitVec.ofInt 32 (wv b)).toNat : Int) = _
  rw [ofInt_u32, ofInt_u32]
  exact wrap_wv (a ||| b)
@[go_sem] theorem wv_add (a b : UInt32) : (wv a + wv b) % (4294967296 : Int) = wv (a + b) := by
  unfold wv; rw [UInt32.toNat_add]; omega
@[go_sem] theorem wv_sub (a b : UInt32) : (wv a - wv b) % (4294967296 : Int) = wv (a - b) := by
  have ha := a.toNat_lt; have hb := b.toNat_lt
  unfold wv; rw [UInt32.toNat_sub]; omega
@[go_sem] theorem wv_mod (a : UInt32) : wv a % (4294967296 : Int) = wv a := by
  have := wv_lt a; have := wv_pos a; omega
theorem wv_shr (x n : UInt32) (k : Int) (hn : n.toNat < 32) (hk : k = (2 ^ n.toNat : Nat)) : wv x / k = wv (x >>> n) := by
  unfold wv; rw [UInt32.toNat_shiftRight, Nat.mod_eq_of_lt hn, Nat.shiftRight_eq_div_pow, hk]; simp
theorem wv_shl (x n : UInt32) (k : Int) (hn : n.toNat < 32) (hk : k = (2 ^ n.toNat : Nat)) : wv x * k % (4294967296 : Int) = wv (x <<< n) := by
  unfold wv; rw [UInt32.toNat_shiftLeft, Nat.mod_eq_of_lt hn, Nat.shiftLeft_eq, hk]; simp
@[go_sem] theorem wv_shr1 (x : UInt32) : wv x / (2 : Int) = wv (x >>> 1) := wv_shr x 1 _ (by decide) (by decide)
@[go_sem] theorem wv_shl1 (x : UInt32) : wv x * (2 : Int) % (4294967296 : Int) = wv (x <<< 1) := wv_shl x 1 _ (by decide) (by decide)
@[go_sem] theorem wv_shr2 (x : UInt32) : wv x / (4 : Int) = wv (x >>> 2) := wv_shr x 2 _ (by decide) (by decide)
@[go_sem] theorem wv_shl2 (x : UInt32) : wv x * (4 : Int) % (4294967296 : Int) = wv (x <<< 2) := wv_shl x 2 _ (by decide) (by decide)
@[go_sem] theorem wv_shr3 (x : UInt32) : wv x / (8 : Int) = wv (x >>> 3) := wv_shr x 3 _ (by decide) (by decide)
@[go_sem] theorem wv_shl3 (x : UInt32) : wv x * (8 : Int) % (4294967296 : Int) = wv (x <<< 3) := wv_shl x 3 _ (by decide) (by decide)
@[go_sem] theorem wv_shr4 (x : UInt32) : wv x / (16 : Int) = wv (x >>> 4) := wv_shr x 4 _ (by decide) (by decide)
@[go_sem] theorem wv_shl4 (x : UInt32) : wv x * (16 : Int) % (4294967296 : Int) = wv (x <<< 4) := wv_shl x 4 _ (by decide) (by decide)
@[go_sem] theorem wv_shr5 (x : UInt32) : wv x / (32 : Int) = wv (x >>> 5) := wv_shr x 5 _ (by decide) (by decide)
@[go_sem] theorem wv_shl5 (x : UInt32) : wv x * (32 : Int) % (4294967296 : Int) = wv (x <<< 5) := wv_shl x 5 _ (by decide) (by decide)
@[go_sem] theorem wv_shr6 (x : UInt32) : wv x / (64 : Int) = wv (x >>> 6) := wv_shr x 6 _ (by decide) (by decide)
@[go_sem] theorem wv_shl6 (x : UInt32) : wv x * (64 : Int) % (4294967296 : Int) = wv (x <<< 6) := wv_shl x 6 _ (by decide) (by decide)
@[go_sem] theorem wv_shr7 (x : UInt32) : wv x / (128 : Int) = wv (x >>> 7) := wv_shr x 7 _ (by decide) (by decide)
@[go_sem] theorem wv_shl7 (x : UInt32) : wv x * (128 : Int) % (4294967296 : Int) = wv (x <<< 7) := wv_shl x 7 _ (by decide) (by decide)
@[go_sem] theorem wv_shr8 (x : UInt32) : wv x / (256 : Int) = wv (x >>> 8) := wv_shr x 8 _ (by decide) (by decide)
@[go_sem] theorem wv_shl8 (x : UInt32) : wv x * (256 : Int) % (4294967296 : Int) = wv (x <<< 8) := wv_shl x 8 _ (by decide) (by decide)
@[go_sem] theorem wv_shr9 (x : UInt32) : wv x / (512 : Int) = wv (x >>> 9) := wv_shr x 9 _ (by decide) (by decide)
@[go_sem] theorem wv_shl9 (x : UInt32) : wv x * (512 : Int) % (4294967296 : Int) = wv (x <<< 9) := wv_shl x 9 _ (by decide) (by decide)
@[go_sem] theorem wv_shr10 (x : UInt32) : wv x / (1024 : Int) = wv (x >>> 10) := wv_shr x 10 _ (by decide) (by decide)
@[go_sem] theorem wv_shl10 (x : UInt32) : wv x * (1024 : Int) % (4294967296 : Int) = wv (x <<< 10) := wv_shl x 10 _ (by decide) (by decide)
@[go_sem] theorem wv_shr11 (x : UInt32) : wv x / (2048 : Int) = wv (x >>> 11) := wv_shr x 11 _ (by decide) (by decide)
@[go_sem] theorem wv_shl11 (x : UInt32) : wv x * (2048 : Int) % (4294967296 : Int) = wv (x <<< 11) := wv_shl x 11 _ (by decide) (by decide)
@[go_sem] theorem wv_shr12 (x : UInt32) : wv x / (4096 : Int) = wv (x >>> 12) := wv_shr x 12 _ (by decide) (by decide)
@[go_sem] theorem wv_shl12 (x : UInt32) : wv x * (4096 : Int) % (4294967296 : Int) = wv (x <<< 12) := wv_shl x 12 _ (by decide) (by decide)
@[go_sem] theorem wv_shr13 (x : UInt32) : wv x / (8192 : Int) = wv (x >>> 13) := wv_shr x 13 _ (by decide) (by decide)
@[go_sem] theorem wv_shl13 (x : UInt32) : wv x * (8192 : Int) % (4294967296 : Int) = wv (x <<< 13) := wv_shl x 13 _ (by decide) (by decide)
@[go_sem] theorem wv_shr14 (x : UInt32) : wv x / (16384 : Int) = wv (x >>> 14) := wv_shr x 14 _ (by decide) (by decide)
@[go_sem] theorem wv_shl14 (x : UInt32) : wv x * (16384 : Int) % (4294967296 : Int) = wv (x <<< 14) := wv_shl x 14 _ (by decide) (by decide)
@[go_sem] theorem wv_shr15 (x : UInt32) : wv x / (32768 : Int) = wv (x >>> 15) := wv_shr x 15 _ (by decide) (by decide)
@[go_sem] theorem wv_shl15 (x : UInt32) : wv x * (32768 : Int) % (4294967296 : Int) = wv (x <<< 15) := wv_shl x 15 _ (by decide) (by decide)
@[go_sem] theorem wv_shr16 (x : UInt32) : wv x / (65536 : Int) = wv (x >>> 16) := wv_shr x 16 _ (by decide) (by decide)
@[go_sem] theorem wv_shl16 (x : UInt32) : wv x * (65536 : Int) % (4294967296 : Int) = wv (x <<< 16) := wv_shl x 16 _ (by decide) (by decide)
@[go_sem] theorem wv_shr17 (x : UInt32) : wv x / (131072 : Int) = wv (x >>> 17) := wv_shr x 17 _ (by decide) (by decide)
@[go_sem] theorem wv_shl17 (x : UInt32) : wv x * (131072 : Int) % (4294967296 : Int) = wv (x <<< 17) := wv_shl x 17 _ (by decide) (by decide)
@[go_sem] theorem wv_shr18 (x : UInt32) : wv x / (262144 : Int) = wv (x >>> 18) := wv_shr x 18 _ (by decide) (by decide)
@[go_sem] theorem wv_shl18 (x : UInt32) : wv x * (262144 : Int) % (4294967296 : Int) = wv (x <<< 18) := wv_shl x 18 _ (by decide) (by decide)
@[go_sem] theorem wv_shr19 (x : UInt32) : wv x / (524288 : Int) = wv (x >>> 19) := wv_shr x 19 _ (by decide) (by decide)
@[go_sem] theorem wv_shl19 (x : UInt32) : wv x * (524288 : Int) % (4294967296 : Int) = wv (x <<< 19) := wv_shl x 19 _ (by decide) (by decide)
@[go_sem] theorem wv_shr20 (x : UInt32) : wv x / (1048576 : Int) = wv (x >>> 20) := wv_shr x 20 _ (by decide) (by decide)
@[go_sem] theorem wv_shl20 (x : UInt32) : wv x * (1048576 : Int) % (4294967296 : Int) = wv (x <<< 20) := wv_shl x 20 _ (by decide) (by decide)
@[go_sem] theorem wv_shr21 (x : UInt32) : wv x / (2097152 : Int) = wv (x >>> 21) := wv_shr x 21 _ (by decide) (by decide)
@[go_sem] theorem wv_shl21 (x : UInt32) : wv x * (2097152 : Int) % (4294967296 : Int) = wv (x <<< 21) := wv_shl x 21 _ (by decide) (by decide)
@[go_sem] theorem wv_shr22 (x : UInt32) : wv x / (4194304 : Int) = wv (x >>> 22) := wv_shr x 22 _ (by decide) (by decide)
@[go_sem] theorem wv_shl22 (x : UInt32) : wv x * (4194304 : Int) % (4294967296 : Int) = wv (x <<< 22) := wv_shl x 22 _ (by decide) (by decide)
@[go_sem] theorem wv_shr23 (x : UInt32) : wv x / (8388608 : Int) = wv (x >>> 23) := wv_shr x 23 _ (by decide) (by decide)
@[go_sem] theorem wv_shl23 (x : UInt32) : wv x * (8388608 : Int) % (4294967296 : Int) = wv (x <<< 23) := wv_shl x 23 _ (by decide) (by decide)
@[go_sem] theorem wv_shr24 (x : UInt32) : wv x / (16777216 : Int) = wv (x >>> 24) := wv_shr x 24 _ (by decide) (by decide)
@[go_sem] theorem wv_shl24 (x : UInt32) : wv x * (16777216 : Int) % (4294967296 : Int) = wv (x <<< 24) := wv_shl x 24 _ (by decide) (by decide)
@[go_sem] theorem wv_shr25 (x : UInt32) : wv x / (33554432 : Int) = wv (x >>> 25) := wv_shr x 25 _ (by decide) (by decide)
@[go_sem] theorem wv_shl25 (x : UInt32) : wv x * (33554432 : Int) % (4294967296 : Int) = wv (x <<< 25) := wv_shl x 25 _ (by decide) (by decide)
@[go_sem] theorem wv_shr26 (x : UInt32) : wv x / (67108864 : Int) = wv (x >>> 26) := wv_shr x 26 _ (by decide) (by decide)
@[go_sem] theorem wv_shl26 (x : UInt32) : wv x * (67108864 : Int) % (4294967296 : Int) = wv (x <<< 26) := wv_shl x 26 _ (by decide) (by decide)
@[go_sem] theorem wv_shr27 (x : UInt32) : wv x / (134217728 : Int) = wv (x >>> 27) := wv_shr x 27 _ (by decide) (by decide)
@[go_sem] theorem wv_shl27 (x : UInt32) : wv x * (134217728 : Int) % (4294967296 : Int) = wv (x <<< 27) := wv_shl x 27 _ (by decide) (by decide)
@[go_sem] theorem wv_shr28 (x : UInt32) : wv x / (268435456 : Int) = wv (x >>> 28) := wv_shr x 28 _ (by decide) (by decide)
@[go_sem] theorem wv_shl28 (x : UInt32) : wv x * (268435456 : Int) % (4294967296 : Int) = wv (x <<< 28) := wv_shl x 28 _ (by decide) (by decide)
@[go_sem] theorem wv_shr29 (x : UInt32) : wv x / (536870912 : Int) = wv (x >>> 29) := wv_shr x 29 _ (by decide) (by decide)
@[go_sem] theorem wv_shl29 (x : UInt32) : wv x * (536870912 : Int) % (4294967296 : Int) = wv (x <<< 29) := wv_shl x 29 _ (by decide) (by decide)
@[go_sem] theorem wv_shr30 (x : UInt32) : wv x / (1073741824 : Int) = wv (x >>> 30) := wv_shr x 30 _ (by decide) (by decide)
@[go_sem] theorem wv_shl30 (x : UInt32) : wv x * (1073741824 : Int) % (4294967296 : Int) = wv (x <<< 30) := wv_shl x 30 _ (by decide) (by decide)
@[go_sem] theorem wv_shr31 (x : UInt32) : wv x / (2147483648 : Int) = wv (x >>> 31) := wv_shr x 31 _ (by decide) (by decide)
@[go_sem] theorem wv_shl31 (x : UInt32) : wv x * (2147483648 : Int) % (4294967296 : Int) = wv (x <<< 31) := wv_shl x 31 _ (by decide) (by decide)
@[go_sem] theorem wv_or8 (a : UInt32) (x : UInt8) : bits .or .u32 (wv a) (x.toNat : Int) = wv (a ||| x.toUInt32) := by
  have : (x.toNat : Int) = wv x.toUInt32 := by simp [wv]
  rw [this, wv_or]
@[go_sem] theorem wv8m (x : UInt8) : (x.toNat : Int) % (4294967296 : Int) = wv x.toUInt32 := by have := x.toNat_lt; simp [wv]; omega
theorem wv8 (x : UInt8) : (x.toNat : Int) = wv x.toUInt32 := by simp [wv]
def rotr (x n : UInt32) : UInt32 := (x >>> n) ||| (x <<< (32 - n))
def u32s (l : List UInt32) : Array Value := (l.map fun x => Value.int .u32 (wv x)).toArray
def b8s (l : List UInt8) : Array Value := (l.map fun x => Value.int .u8 x.toNat).toArray
theorem eg_add (a b : UInt32) : IntKind.u32.wrap (wv a + wv b) = wv (a + b) := by rw [IntKind.wrap_u32]; unfold wv; rw [UInt32.toNat_add]; omega
theorem eg_sub (a b : UInt32) : IntKind.u32.wrap (wv a - wv b) = wv (a - b) := by
  rw [IntKind.wrap_u32]; unfold wv; rw [UInt32.toNat_sub]
  have := a.toNat_lt; have := b.toNat_lt; omega
theorem eg_bv (v : BitVec 32) : IntKind.u32.wrap (v.toNat : Int) = v.toNat := by rw [IntKind.wrap_u32]; have := v.isLt; omega
theorem eg_and (a b : UInt32) : IntKind.u32.wrap ((BitVec.ofInt IntKind.u32.bits (wv a) &&& BitVec.ofInt IntKind.u32.bits (wv b)).toNat : Int) = wv (a &&& b) := by
  show IntKind.u32.wrap ((BitVec.ofInt 32 (wv a) &&& BitVec.ofInt 32 (wv b)).toNat : Int) = _
  rw [ofInt_u32, ofInt_u32]; exact eg_bv (a.toBitVec &&& b.toBitVec)
theorem eg_or (a b : UInt32) : IntKind.u32.wrap ((BitVec.ofInt IntKind.u32.bits (wv a) ||| BitVec.ofInt IntKind.u32.bits (wv b)).toNat : Int) = wv (a ||| b) := by
  show IntKind.u32.wrap ((BitVec.ofInt 32 (wv a) ||| BitVec.ofInt 32 (wv b)).toNat : Int) = _
  rw [ofInt_u32, ofInt_u32]; exact eg_bv (a.toBitVec ||| b.toBitVec)
theorem eg_xor (a b : UInt32) : IntKind.u32.wrap ((BitVec.ofInt IntKind.u32.bits (wv a) ^^^ BitVec.ofInt IntKind.u32.bits (wv b)).toNat : Int) = wv (a ^^^ b) := by
  show IntKind.u32.wrap ((BitVec.ofInt 32 (wv a) ^^^ BitVec.ofInt 32 (wv b)).toNat : Int) = _
  rw [ofInt_u32, ofInt_u32]; exact eg_bv (a.toBitVec ^^^ b.toBitVec)
theorem eg_shr (x : UInt32) (n : Nat) (hn : n < 32) : (wv x).fdiv (2 ^ min n IntKind.u32.bits) = wv (x >>> UInt32.ofNat n) := by
  have hb : min n IntKind.u32.bits = n := Nat.min_eq_left (by show n ≤ 32; omega)
  have h1 : (UInt32.ofNat n).toNat = n := by rw [UInt32.toNat_ofNat']; omega
  rw [hb, Int.fdiv_eq_ediv_of_nonneg _ (Int.le_of_lt (Int.pow_pos (by decide)))]
  rw [← wv_shr x (UInt32.ofNat n) (2 ^ n : Int) (by omega) (by rw [h1]; simp)]
theorem eg_shl (x : UInt32) (n : Nat) (hn : n < 32) : IntKind.u32.wrap (wv x * 2 ^ min n IntKind.u32.bits) = wv (x <<< UInt32.ofNat n) := by
  have hb : min n IntKind.u32.bits = n := Nat.min_eq_left (by show n ≤ 32; omega)
  have h1 : (UInt32.ofNat n).toNat = n := by rw [UInt32.toNat_ofNat']; omega
  rw [hb, IntKind.wrap_u32]
  rw [← wv_shl x (UInt32.ofNat n) (2 ^ n : Int) (by omega) (by rw [h1]; simp)]
theorem eg_ofu8 (a : UInt8) : BitVec.ofInt IntKind.u8.bits (a.toNat : Int) = a.toBitVec := by
  show BitVec.ofInt 8 (a.toNat : Int) = _
  apply BitVec.eq_of_toNat_eq
  rw [BitVec.ofInt_natCast, BitVec.toNat_ofNat]
  have := a.toNat_lt
  show a.toNat % 2 ^ 8 = a.toNat
  omega
theorem eg_xor8 (a b : UInt8) : IntKind.u8.wrap ((BitVec.ofInt IntKind.u8.bits (a.toNat : Int) ^^^ BitVec.ofInt IntKind.u8.bits (b.toNat : Int)).toNat : Int) = ((a ^^^ b).toNat : Int) := by
  rw [eg_ofu8, eg_ofu8, IntKind.wrap_u8]
  have := (a ^^^ b).toNat_lt
  show (((a ^^^ b).toNat : Nat) : Int) % 256 = _
  omega
theorem wv_beq (a b : UInt32) : (wv a == wv b) = (a == b) := by
  rw [Bool.eq_iff_iff]; simp only [beq_iff_eq]; exact ⟨wv_inj, fun h => by rw [h]⟩
end
end Go.Proofs.YthdckgcalooipaaDoor
namespace Go.Proofs.YthdckgcalooipaaDoor
section
open Go.RowKit
set_option linter.unusedVariables false
set_option linter.unusedSimpArgs false

/-- What one operation does, without a panic: a value and a world. -/
def StepOk (P : Program) (s : Sem Next) (w : World) (R : Value → World → Prop) : Prop :=
  match s.run P w with
  | .ok (.value v) w' => R v w'
  | .ok .skip w' => R undef w'
  | .ok (.enter f args) w' => Calls P f args w' fun e w'' => match e with | .returned v => R v w'' | _ => False
  | .ok (.row row args) w' => Rows P row args w' R
  | _ => False

theorem StepOk.wp {P : Program} {o : Oper} {a : Act} {w : World} {R : Value → World → Prop} {K : Act → World → Prop} {Q : Exit → Act → World → Prop}
    (h : StepOk P (execOp a.eval o) w R) (hk : ∀ v w', R v w' → K (a.put o.dst v) w') : o.wp P a w K Q := by
  unfold StepOk at h
  unfold Oper.wp
  generalize (execOp a.eval o).run P w = r at *
  cases r with
  | ok n w' =>
    cases n <;> simp only [Oper.upon] at h ⊢
    case value v => exact hk _ _ h
    case skip => exact hk _ _ h
    case enter f args => exact h.mono fun e w'' he => by cases e <;> first | exact hk _ _ he | exact he.elim
    case row row args => exact h.mono fun v w'' he => hk _ _ he
  | halt x w' => exact h.elim

/-- What an operation is shown to tell: G, in a world; ok, of the value alone, which something bears. -/
structure PG where
  G : Value → World → Prop
  ok : Value → Prop := fun _ => True
  imp : ∀ v w, G v w → ok v := by intros; trivial
  x0 : Value := undef
  hx0 : ok x0 := by trivial
abbrev Plan := Nat → Option PG
/-- Does k wait for j? -/
def anc (ops : Array Oper) (k j : Nat) : Bool := ((Region.before ops).getD k 0).testBit j

/-- The walk: what is left, in the text's order; a: the frame; kn: what the operations that have come up have told. -/
def wpS (P : Program) (E : World → World → Prop) (w0 : World) (ops : Array Oper) (plan : Plan) (F : Act → World → Prop) : List Nat → Act → List (Nat × (World → Prop)) → Prop
  | [], a, kn => ∀ w, E w0 w → (∀ p ∈ kn, p.2 w) → F a w
  | k :: rest, a, kn =>
    match ops[k]? with
    | none => False
    | some o =>
      if Region.wanted o (yielded ops a.tmps) = true then
        match plan k with
        | some G => (∀ w, E w0 w → (∀ p ∈ kn, anc ops k p.1 = true → p.2 w) → StepOk P (execOp a.eval o) w fun v w' => E w w' ∧ G.G v w') ∧ ∀ x, G.ok x → wpS P E w0 ops plan F rest (a.put o.dst x) ((k, G.G x) :: kn)
        | none => ∃ v, (∀ w, E w0 w → (∀ p ∈ kn, anc ops k p.1 = true → p.2 w) → (execOp a.eval o).run P w = .ok (.value v) w) ∧ wpS P E w0 ops plan F rest (a.put o.dst v) kn
      else wpS P E w0 ops plan F rest (a.put o.dst undef) kn

/-- Neither looks at what the other one writes, nor do they write the same. -/
def okPair (ops : Array Oper) (i j : Nat) : Bool :=
  match ops[i]?, ops[j]? with
  | some x, some y => anc ops i j || anc ops j i || x.apart ops y
  | _, _ => false
def okS (ops : Array Oper) (m : Nat) : Bool :=
  ((List.range ops.size).all fun i => (List.range i).all fun j => okPair ops j i && !anc ops j i) &&
  ((List.range ops.size).all fun i => !anc ops i i) &&
  (ops.toList.all fun o => match o.op with | .select .. => false | _ => true) &&
  ((List.range ops.size).all fun i => i < m || (List.range i).all fun j => anc ops i j) &&
  ((List.range ops.size).all fun i => match ops[i]? with | some o => o.after.all fun e => !Region.binds .any e || decide (e.on < i) | none => false) && decide (m ≤ ops.size)

section
variable {P : Program} {E : World → World → Prop} {w0 : World} {ops : Array Oper} {plan : Plan} {F : Act → World → Prop}

theorem wpS_congr : ∀ {R : List Nat} {a : Act} {kn kn' : List (Nat × (World → Prop))}, (∀ p, p ∈ kn ↔ p ∈ kn') → wpS P E w0 ops plan F R a kn → wpS P E w0 ops plan F R a kn'
  | [], a, kn, kn', hp, h => fun w hE hk => h w hE fun p hm => hk p ((hp p).1 hm)
  | k :: R, a, kn, kn', hp, h => by
    unfold wpS at h ⊢
    cases ho : ops[k]? with
    | none => rw [ho] at h; exact h
    | some o =>
      rw [ho] at h
      simp only at h ⊢
      split
      · rename_i hw
        rw [if_pos hw] at h
        cases hpl : plan k with
        | some G =>
          rw [hpl] at h
          exact ⟨fun w hE hk => h.1 w hE fun p hm => hk p ((hp p).1 hm), fun x hx => wpS_congr (fun p => by simp only [List.mem_cons, hp p]) (h.2 x hx)⟩
        | none =>
          rw [hpl] at h
          obtain ⟨v, h1, h2⟩ := h
          exact ⟨v, fun w hE hk => h1 w hE fun p hm => hk p ((hp p).1 hm), wpS_congr hp h2⟩
      · rename_i hw
        rw [if_neg hw] at h
        exact wpS_congr hp h

def noSel (o : Oper) : Prop := ∀ cs b, o.op ≠ .select cs b

/-- What operation i does at a frame and a world. -/
def StepAt (P : Program) (E : World → World → Prop) (w : World) (ops : Array Oper) (plan : Plan) (i : Nat) (o : Oper) (a : Act) (kn : List (Nat × (World → Prop))) (K : Value → List (Nat × (World → Prop)) → Prop) : Prop :=
  if Region.wanted o (yielded ops a.tmps) = true then
    match plan i with
    | some G => StepOk P (execOp a.eval o) w (fun v w' => E w w' ∧ G.G v w') ∧ ∀ x, G.ok x → K x ((i, G.G x) :: kn)
    | none => ∃ v, (execOp a.eval o).run P w = .ok (.value v) w ∧ K v kn
  else K undef kn

/-- i does not wait for j, nor j for i, and neither looks at the other's. -/
structure Free (ops : Array Oper) (oi : Oper) (i j : Nat) where
  oj : Oper
  at_ : ops[j]? = some oj
  ij : anc ops i j = false
  ji : anc ops j i = false
  ap : oj.apart ops oi = true
  ap' : oi.apart ops oj = true
  sel : noSel oj

theorem eq_of_run {P : Program} {s : Sem Next} {w : World} {v v' : Value} (h : s.run P w = .ok (.value v) w) (h' : s.run P w = .ok (.value v') w) : v = v' := by
  rw [h] at h'
  injection h' with h'
  injection h'

theorem wpS_pull {i : Nat} {oi : Oper} (hi : ops[i]? = some oi) (hsi : noSel oi) {w : World} (hE : E w0 w) (R2 : List Nat) : ∀ (R1 : List Nat) (a : Act) (kn : List (Nat × (World → Prop))),
    wpS P E w0 ops plan F (R1 ++ i :: R2) a kn → (∀ p ∈ kn, anc ops i p.1 = true → p.2 w) → (∀ j ∈ R1, Nonempty (Free ops oi i j)) →
    StepAt P E w ops plan i oi a kn fun v kn' => wpS P E w0 ops plan F (R1 ++ R2) (a.put oi.dst v) kn'
  | [], a, kn, h, hk, _ => by
    rw [List.nil_append, wpS, hi] at h
    unfold StepAt
    simp only at h
    split
    · rename_i hw
      rw [if_pos hw] at h
      cases hpl : plan i with
      | some G => rw [hpl] at h; exact ⟨h.1 w hE hk, h.2⟩
      | none => rw [hpl] at h; obtain ⟨v, h1, h2⟩ := h; exact ⟨v, h1 w hE hk, h2⟩
    · rename_i hw
      rw [if_neg hw] at h
      exact h
  | j :: R1, a, kn, h, hk, hf => by
    obtain ⟨oj, hj, hij, hji, hap, hap', hsj⟩ := hf j (by simp)
    have hf' : ∀ j ∈ R1, Nonempty (Free ops oi i j) := fun j hj => hf j (by simp [hj])
    obtain ⟨p1, p2, p3⟩ := Oper.apart_spec hap
    obtain ⟨q1, q2, q3⟩ := Oper.apart_spec hap'
    have ei : ∀ x, execOp (a.put oj.dst x).eval oi = execOp a.eval oi := fun x => execOp_put oi hsi a oj.dst x p1
    have wi : ∀ x, Region.wanted oi (yielded ops (a.put oj.dst x).tmps) = Region.wanted oi (yielded ops a.tmps) := fun x => wanted_put (ops := ops) oi a oj.dst x p1
    have ej : ∀ y, execOp (a.put oi.dst y).eval oj = execOp a.eval oj := fun y => execOp_put oj hsj a oi.dst y q1
    have wj : ∀ y, Region.wanted oj (yielded ops (a.put oi.dst y).tmps) = Region.wanted oj (yielded ops a.tmps) := fun y => wanted_put (ops := ops) oj a oi.dst y q1
    have cm : ∀ x y, (a.put oi.dst y).put oj.dst x = (a.put oj.dst x).put oi.dst y := fun x y => Act.put_comm a y x q2
    rw [List.cons_append, wpS, hj] at h
    simp only at h
    -- what j is shown to do, at the frame behind i
    have goal : ∀ (y : Value) (q : List (Nat × (World → Prop))), (∀ p ∈ q, p.1 = i) →
        (if Region.wanted oj (yielded ops a.tmps) = true then
          match plan j with
          | some G => (∀ w, E w0 w → (∀ p ∈ kn, anc ops j p.1 = true → p.2 w) → StepOk P (execOp a.eval oj) w fun v w' => E w w' ∧ G.G v w') ∧ ∀ x, G.ok x → wpS P E w0 ops plan F (R1 ++ R2) ((a.put oj.dst x).put oi.dst y) (q ++ (j, G.G x) :: kn)
          | none => ∃ v, (∀ w, E w0 w → (∀ p ∈ kn, anc ops j p.1 = true → p.2 w) → (execOp a.eval oj).run P w = .ok (.value v) w) ∧ wpS P E w0 ops plan F (R1 ++ R2) ((a.put oj.dst v).put oi.dst y) (q ++ kn)
        else wpS P E w0 ops plan F (R1 ++ R2) ((a.put oj.dst undef).put oi.dst y) (q ++ kn)) → wpS P E w0 ops plan F (j :: R1 ++ R2) (a.put oi.dst y) (q ++ kn) := by
      intro y q hq hh
      have hkn : ∀ w, (∀ p ∈ q ++ kn, anc ops j p.1 = true → p.2 w) → ∀ p ∈ kn, anc ops j p.1 = true → p.2 w := fun w hk p hm => hk p (by simp [hm])
      rw [List.cons_append, wpS, hj]
      simp only [wj, ej]
      split
      · rename_i hw
        rw [if_pos hw] at hh
        cases hpl : plan j with
        | some G =>
          rw [hpl] at hh
          exact ⟨fun w hE hk => hh.1 w hE (hkn w hk), fun x hx => by rw [cm]; exact wpS_congr (fun p => by simp only [List.mem_append, List.mem_cons]; constructor <;> (rintro (h | h | h) <;> simp [h])) (hh.2 x hx)⟩
        | none =>
          rw [hpl] at hh
          obtain ⟨v, h1, h2⟩ := hh
          exact ⟨v, fun w hE hk => h1 w hE (hkn w hk), by rw [cm]; exact h2⟩
      · rename_i hw
        rw [if_neg hw] at hh
        rw [cm]; exact hh
    unfold StepAt
    by_cases hwj : Region.wanted oj (yielded ops a.tmps) = true
    · rw [if_pos hwj] at h
      cases hpj : plan j with
      | some Gj =>
        rw [hpj] at h
        have ih := fun x (hx : Gj.ok x) => wpS_pull hi hsi hE R2 R1 (a.put oj.dst x) ((j, Gj.G x) :: kn) (h.2 x hx) (fun p hm ha => by
          rcases List.mem_cons.1 hm with rfl | hm
          · rw [hij] at ha; cases ha
          · exact hk p hm ha) hf'
        unfold StepAt at ih
        simp only [ei, wi] at ih
        split
        · rename_i hw
          simp only [if_pos hw] at ih
          cases hpi : plan i with
          | some G =>
            simp only [hpi] at ih
            refine ⟨(ih _ Gj.hx0).1, fun y hy => goal y [(i, G.G y)] (by simp) ?_⟩
            rw [if_pos hwj, hpj]
            exact ⟨h.1, fun x hx => (ih x hx).2 y hy⟩
          | none =>
            simp only [hpi] at ih
            obtain ⟨v, h1, _⟩ := ih _ Gj.hx0
            refine ⟨v, h1, goal v [] (by simp) ?_⟩
            rw [if_pos hwj, hpj]
            refine ⟨h.1, fun x hx => ?_⟩
            obtain ⟨v', h1', h2'⟩ := ih x hx
            rw [eq_of_run h1 h1']
            exact h2'
        · rename_i hw
          simp only [if_neg hw] at ih
          refine goal undef [] (by simp) ?_
          rw [if_pos hwj, hpj]
          exact ⟨h.1, fun x hx => ih x hx⟩
      | none =>
        rw [hpj] at h
        obtain ⟨vj, hj1, hj2⟩ := h
        have ih := wpS_pull hi hsi hE R2 R1 (a.put oj.dst vj) kn hj2 hk hf'
        unfold StepAt at ih
        simp only [ei, wi] at ih
        split
        · rename_i hw
          simp only [if_pos hw] at ih
          cases hpi : plan i with
          | some G =>
            simp only [hpi] at ih
            refine ⟨ih.1, fun y hy => goal y [(i, G.G y)] (by simp) ?_⟩
            rw [if_pos hwj, hpj]
            exact ⟨vj, hj1, ih.2 y hy⟩
          | none =>
            simp only [hpi] at ih
            obtain ⟨v, h1, h2⟩ := ih
            refine ⟨v, h1, goal v [] (by simp) ?_⟩
            rw [if_pos hwj, hpj]
            exact ⟨vj, hj1, h2⟩
        · rename_i hw
          simp only [if_neg hw] at ih
          refine goal undef [] (by simp) ?_
          rw [if_pos hwj, hpj]
          exact ⟨vj, hj1, ih⟩
    · rw [if_neg hwj] at h
      have ih := wpS_pull hi hsi hE R2 R1 (a.put oj.dst undef) kn h hk hf'
      unfold StepAt at ih
      simp only [ei, wi] at ih
      split
      · rename_i hw
        simp only [if_pos hw] at ih
        cases hpi : plan i with
        | some G =>
          simp only [hpi] at ih
          refine ⟨ih.1, fun y hy => goal y [(i, G.G y)] (by simp) ?_⟩
          rw [if_neg hwj]
          exact ih.2 y hy
        | none =>
          simp only [hpi] at ih
          obtain ⟨v, h1, h2⟩ := ih
          refine ⟨v, h1, goal v [] (by simp) ?_⟩
          rw [if_neg hwj]
          exact h2
      · rename_i hw
        simp only [if_neg hw] at ih
        refine goal undef [] (by simp) ?_
        rw [if_neg hwj]
        exact ih
end

/-! what 'before' tells -/
def befOf (acc : Array Nat) (o : Oper) : Nat := o.after.foldl (fun s e => if Region.binds .any e then s ||| 2 ^ e.on ||| acc.getD e.on 0 else s) 0
def bef (l : List Oper) : Array Nat := l.foldl (fun acc o => acc.push (befOf acc o)) #[]
theorem before_eq (ops : Array Oper) : Region.before ops = bef ops.toList := by
  unfold Region.before bef befOf
  rw [← Array.foldl_toList]
theorem bef_fold : ∀ (l : List Oper) (acc : Array Nat),
    (l.foldl (fun acc o => acc.push (befOf acc o)) acc).size = acc.size + l.length ∧
    (∀ k, k < acc.size → (l.foldl (fun acc o => acc.push (befOf acc o)) acc)[k]? = acc[k]?) ∧
    (∀ i o, l[i]? = some o → ∃ acc' : Array Nat, acc'.size = acc.size + i ∧ (∀ k, k < acc'.size → (l.foldl (fun acc o => acc.push (befOf acc o)) acc)[k]? = acc'[k]?) ∧
      (l.foldl (fun acc o => acc.push (befOf acc o)) acc)[acc.size + i]? = some (befOf acc' o))
  | [], acc => ⟨rfl, fun _ _ => rfl, fun i o h => by simp at h⟩
  | x :: l, acc => by
    obtain ⟨h1, h2, h3⟩ := bef_fold l (acc.push (befOf acc x))
    simp only [List.foldl_cons]
    refine ⟨by rw [h1]; simp; omega, fun k hk => by rw [h2 k (by simp; omega), Array.getElem?_push, if_neg (by omega)], fun i o hi => ?_⟩
    cases i with
    | zero =>
      simp at hi
      subst hi
      exact ⟨acc, rfl, fun k hk => by rw [h2 k (by simp; omega), Array.getElem?_push, if_neg (by omega)], by rw [Nat.add_zero, h2 _ (by simp), Array.getElem?_push, if_pos rfl]⟩
    | succ i =>
      obtain ⟨acc', g1, g2, g3⟩ := h3 i o (by simpa using hi)
      exact ⟨acc', by rw [g1]; simp; omega, g2, by rw [← g3]; congr 1; simp; omega⟩
theorem fold_bits (acc : Array Nat) (j : Nat) : ∀ (l : List Edge) (s : Nat), (l.foldl (fun s e => if Region.binds .any e then s ||| 2 ^ e.on ||| acc.getD e.on 0 else s) s).testBit j = true ↔
    s.testBit j = true ∨ ∃ e ∈ l, Region.binds .any e = true ∧ (e.on = j ∨ (acc.getD e.on 0).testBit j = true)
  | [], s => by simp
  | e :: l, s => by
    rw [List.foldl_cons, fold_bits acc j l]
    by_cases hb : Region.binds .any e = true
    · rw [if_pos hb, Nat.testBit_or, Nat.testBit_or, Nat.testBit_two_pow]
      simp only [Bool.or_eq_true, decide_eq_true_eq, List.mem_cons, exists_eq_or_imp, hb, true_and]
      constructor
      · rintro ((h | h) | h)
        · rcases h with h | h
          · exact .inl h
          · exact .inr (.inl (.inl h))
        · exact .inr (.inl (.inr h))
        · exact .inr (.inr h)
      · rintro (h | (h | h) | h)
        · exact .inl (.inl (.inl h))
        · exact .inl (.inl (.inr h))
        · exact .inl (.inr h)
        · exact .inr h
    · rw [if_neg hb]
      simp only [List.mem_cons, exists_eq_or_imp, hb, false_and, false_or, Bool.false_eq_true]
theorem befOf_bits (acc : Array Nat) (o : Oper) (j : Nat) : (befOf acc o).testBit j = true ↔ ∃ e ∈ o.after, Region.binds .any e = true ∧ (e.on = j ∨ (acc.getD e.on 0).testBit j = true) := by
  unfold befOf
  rw [← Array.foldl_toList, fold_bits]
  simp only [Nat.zero_testBit, Bool.false_eq_true, false_or, Array.mem_toList_iff]
theorem anc_iff {ops : Array Oper} {i : Nat} {o : Oper} (hi : ops[i]? = some o) (hlt : ∀ e ∈ o.after, Region.binds .any e = true → e.on < i) (j : Nat) :
    anc ops i j = true ↔ ∃ e ∈ o.after, Region.binds .any e = true ∧ (e.on = j ∨ anc ops e.on j = true) := by
  obtain ⟨_, _, h3⟩ := bef_fold ops.toList #[]
  obtain ⟨acc', g1, g2, g3⟩ := h3 i o (by simpa using hi)
  have hb : Region.before ops = ops.toList.foldl (fun acc o => acc.push (befOf acc o)) #[] := before_eq ops
  rw [← hb] at g2 g3
  simp only [List.size_toArray, List.length_nil, Nat.zero_add] at g1 g3
  have key : ∀ k, anc ops k j = (((Region.before ops)[k]?).getD 0).testBit j := fun k => by unfold anc; rw [Array.getD_eq_getD_getElem?]
  rw [key i, g3, Option.getD_some, befOf_bits]
  constructor
  · rintro ⟨e, he, hbi, h⟩
    refine ⟨e, he, hbi, h.imp id fun h => ?_⟩
    have := hlt e he hbi
    rw [key, g2 _ (by omega), ← Array.getD_eq_getD_getElem?]
    exact h
  · rintro ⟨e, he, hbi, h⟩
    refine ⟨e, he, hbi, h.imp id fun h => ?_⟩
    have := hlt e he hbi
    rw [key, g2 _ (by omega), ← Array.getD_eq_getD_getElem?] at h
    exact h

structure OkS (ops : Array Oper) (m : Nat) : Prop where
  lt : ∀ (i : Nat) (o : Oper), ops[i]? = some o → ∀ e ∈ o.after, Region.binds .any e = true → e.on < i
  free : ∀ (i j : Nat) (oi oj : Oper), ops[i]? = some oi → ops[j]? = some oj → j < i → anc ops j i = false ∧ (anc ops i j = true ∨ oj.apart ops oi = true)
  sel : ∀ (i : Nat) (o : Oper), ops[i]? = some o → noSel o
  tail : ∀ (i j : Nat), m ≤ i → i < ops.size → j < i → anc ops i j = true
  le : m ≤ ops.size
theorem okS_spec {ops : Array Oper} {m : Nat} (h : okS ops m = true) : OkS ops m := by
  unfold okS at h
  simp only [Bool.and_eq_true, List.all_eq_true, List.mem_range, decide_eq_true_eq] at h
  obtain ⟨⟨⟨⟨⟨h1, h2⟩, h3⟩, h4⟩, h5⟩, h6⟩ := h
  refine ⟨fun i o ho e he hb => ?_, fun i j oi oj hi hj hlt => ?_, fun i o ho cs b hop => ?_, fun i j hm hi hj => ?_, h6⟩
  · have := h5 i (Array.getElem?_eq_some_iff.1 ho).1
    rw [ho] at this
    simp only [Array.all_eq_true_iff_forall_mem, Bool.or_eq_true, Bool.not_eq_true', decide_eq_true_eq] at this
    exact (this e he).resolve_left (by rw [hb]; simp)
  · obtain ⟨h, hn⟩ := h1 i (Array.getElem?_eq_some_iff.1 hi).1 j hlt
    have hn : anc ops j i = false := by simpa using hn
    refine ⟨hn, ?_⟩
    unfold okPair at h
    rw [hj, hi] at h
    simp only [Bool.or_eq_true, hn, Bool.false_eq_true, false_or] at h
    exact h
  · have := h3 o (by rw [Array.mem_toList_iff]; exact Array.mem_of_getElem? ho)
    rw [hop] at this
    cases this
  · have := h4 i hi
    simp only [Bool.or_eq_true, decide_eq_true_eq, List.all_eq_true, List.mem_range] at this
    exact this.resolve_left (by omega) j hj
theorem apart_symm {ops : Array Oper} {x y : Oper} (h : x.apart ops y = true) : y.apart ops x = true := by
  unfold Oper.apart at *
  cases hx : x.dst <;> cases hy : y.dst <;> simp_all
  exact fun e => h.1.2 e.symm

section
variable {P : Program} {Q : Exit → Act → World → Prop} {ops : Array Oper} {m : Nat}
theorem any_of_tail (ok : OkS ops m) : ∀ (fuel k : Nat) (listed : Array Bool) (a : Act) (w : World), listed.size = ops.size → (∀ j, listed.getD j false = decide (j < k)) → m ≤ k → k ≤ ops.size → ops.size - k ≤ fuel →
    wpList P ops Q (ops.toList.drop k) a w → wpAny P .any ops Q fuel listed a w := by
  intro fuel
  induction fuel with
  | zero =>
    intro k listed a w hs hl hm hk hf h
    have : k = ops.size := by omega
    subst this
    rw [List.drop_eq_nil_of_le (by simp)] at h
    refine ⟨?_, h⟩
    rw [List.eq_nil_iff_forall_not_mem]
    intro i hi
    obtain ⟨h0, o, ho, _⟩ := mem_ready.1 hi
    have hlt := (Array.getElem?_eq_some_iff.1 ho).1
    have := hl i
    rw [Array.getD_eq_getD_getElem?, Array.getElem?_eq_getElem (by omega)] at h0 this
    simp only [Option.getD_some] at h0 this
    rw [h0] at this
    simp [hlt] at this
  | succ fuel ih =>
    intro k listed a w hs hl hm hk hf h
    have hgd : ∀ i, i < ops.size → listed.getD i true = decide (i < k) := fun i hi => by
      have := hl i
      rw [Array.getD_eq_getD_getElem?, Array.getElem?_eq_getElem (by omega)] at this ⊢
      exact this
    have only : ∀ i, i ∈ Region.ready .any ops listed → i = k := by
      intro i hi
      obtain ⟨h0, o, ho, ha⟩ := mem_ready.1 hi
      have hlt := (Array.getElem?_eq_some_iff.1 ho).1
      rw [hgd i hlt] at h0
      have h0 : k ≤ i := by simpa using h0
      rcases Nat.lt_or_ge k i with h1 | h1
      · exfalso
        obtain ⟨e, he, hb, hh⟩ := (anc_iff ho (ok.lt i o ho) k).1 (ok.tail i k (by omega) hlt h1)
        have h2 := ha e he hb
        rw [hl] at h2
        have h2 : e.on < k := by simpa using h2
        rcases hh with hh | hh
        · omega
        · cases hoe : ops[e.on]? with
          | none => have := ok.lt i o ho e he hb; simp at hoe; omega
          | some oe =>
            cases hok : ops[k]? with
            | none => simp at hok; omega
            | some okk =>
              rw [(ok.free k e.on okk oe hok hoe h2).1] at hh
              cases hh
      · omega
    refine ⟨fun hr => ?_, fun i hi => ?_⟩
    · have : k = ops.size := by
        rcases Nat.lt_or_ge k ops.size with h1 | h1
        · exfalso
          have : k ∈ Region.ready .any ops listed := by
            rw [mem_ready]
            refine ⟨by rw [hgd k h1]; simp, ops[k], Array.getElem?_eq_getElem h1, fun e he hb => ?_⟩
            rw [hl]
            simpa using ok.lt k _ (Array.getElem?_eq_getElem h1) e he hb
          rw [hr] at this
          cases this
        · omega
      subst this
      rw [List.drop_eq_nil_of_le (by simp)] at h
      exact h
    · obtain rfl := only i hi
      obtain ⟨_, o, ho, _⟩ := mem_ready.1 hi
      have hlt := (Array.getElem?_eq_some_iff.1 ho).1
      have hd : ops.toList.drop i = o :: ops.toList.drop (i + 1) := by
        rw [List.drop_eq_getElem_cons (by simpa using hlt)]
        congr 1
        have := (Array.getElem?_eq_some_iff.1 ho).2
        simpa using this
      rw [hd] at h
      have h2 : wpOp P ops Q i (wpList P ops Q (ops.toList.drop (i + 1))) a w := by
        unfold wpOp
        rw [ho]
        unfold wpList at h
        exact h
      refine wpOp_mono (fun a' w' h' => ih (i + 1) _ a' w' (by simpa using hs) (fun j => ?_) (by omega) (by omega) (by omega) h') h2
      by_cases hj : i = j
      · subst hj
        rw [Array.getD_eq_getD_getElem?, Array.getElem?_setIfInBounds_self]
        rw [if_pos (by omega)]; simp
      · rw [getD_set_ne _ hj, hl]
        simp only [decide_eq_decide]
        omega
end

section
variable {P : Program} {Q : Exit → Act → World → Prop} {ops : Array Oper} {m : Nat} {E : World → World → Prop} {w0 : World} {plan : Plan}
def Mono (E : World → World → Prop) (G : World → Prop) : Prop := ∀ w w', E w w' → G w → G w'

theorem filter_pull {R1 R2 : List Nat} {i m : Nat} {p : Nat → Bool} (h : (List.range m).filter p = R1 ++ i :: R2) : (List.range m).filter (fun j => (j != i) && p j) = R1 ++ R2 := by
  have hn : ((List.range m).filter p).Nodup := List.Pairwise.filter _ (List.nodup_range)
  rw [← List.filter_filter, h]
  rw [h, List.nodup_append] at hn
  obtain ⟨h1, h2, h3⟩ := hn
  rw [List.nodup_cons] at h2
  rw [List.filter_append, List.filter_cons, if_neg (by simp)]
  congr 1
  · rw [List.filter_eq_self]; intro x hx; simpa using h3 x hx i (by simp)
  · rw [List.filter_eq_self]; intro x hx; simp; rintro rfl; exact h2.1 hx
theorem getD_true_false {listed : Array Bool} {j : Nat} (h : j < listed.size) : listed.getD j true = listed.getD j false := by
  simp [Array.getD_eq_getD_getElem?, h]

theorem any_of_S (ok : OkS ops m) (hrf : ∀ w, E w w) (htr : ∀ a b c, E a b → E b c → E a c) (hmono : ∀ (i : Nat) (G : PG), plan i = some G → ∀ v, Mono E (G.G v)) : ∀ (fuel : Nat) (listed : Array Bool) (a : Act) (w : World) (kn : List (Nat × (World → Prop))),
    listed.size = ops.size → (∀ i, listed.getD i false = true → ∀ j, anc ops i j = true → listed.getD j false = true) → (∀ j, m ≤ j → listed.getD j false = false) →
    ((List.range m).filter fun j => !listed.getD j true).length + (ops.size - m) ≤ fuel → E w0 w → (∀ p ∈ kn, p.2 w) → (∀ p ∈ kn, Mono E p.2) →
    wpS P E w0 ops plan (fun a w => wpList P ops Q (ops.toList.drop m) a w) ((List.range m).filter fun j => !listed.getD j true) a kn → wpAny P .any ops Q fuel listed a w := by
  intro fuel
  induction fuel with
  | zero =>
    intro listed a w kn hs hcl htl hf hE hk hmk h
    have hR : (List.range m).filter (fun j => !listed.getD j true) = [] := List.eq_nil_of_length_eq_zero (by omega)
    rw [hR] at h
    refine any_of_tail ok 0 m listed a w hs (fun j => ?_) (Nat.le_refl _) ok.le (by omega) (h w hE hk)
    by_cases hj : j < m
    · have := List.filter_eq_nil_iff.1 hR j (List.mem_range.2 hj)
      rw [← getD_true_false (by have := ok.le; omega)]
      simpa [hj] using this
    · rw [htl j (by omega)]; simp [hj]
  | succ fuel ih =>
    intro listed a w kn hs hcl htl hf hE hk hmk h
    by_cases hR : (List.range m).filter (fun j => !listed.getD j true) = []
    · rw [hR] at h hf
      refine any_of_tail ok (fuel + 1) m listed a w hs (fun j => ?_) (Nat.le_refl _) ok.le (by simpa using hf) (h w hE hk)
      by_cases hj : j < m
      · have := List.filter_eq_nil_iff.1 hR j (List.mem_range.2 hj)
        rw [← getD_true_false (by have := ok.le; omega)]
        simpa [hj] using this
      · rw [htl j (by omega)]; simp [hj]
    have hle := ok.le
    have hpw : ((List.range m).filter fun j => !listed.getD j true).Pairwise (· < ·) := List.Pairwise.filter _ List.pairwise_lt_range
    have hmem : ∀ j, j ∈ (List.range m).filter (fun j => !listed.getD j true) ↔ j < m ∧ listed.getD j true = false := fun j => by simp
    have hanc : ∀ i, i ∈ Region.ready .any ops listed → ∀ j, anc ops i j = true → listed.getD j false = true := by
      intro i hi j hj
      obtain ⟨_, o, ho, ha⟩ := mem_ready.1 hi
      obtain ⟨e, he, hb, hh⟩ := (anc_iff ho (ok.lt i o ho) j).1 hj
      rcases hh with rfl | hh
      · exact ha e he hb
      · exact hcl _ (ha e he hb) j hh
    refine ⟨fun hr => ?_, fun i hi => ?_⟩
    · exfalso
      obtain ⟨i, R', hRe⟩ : ∃ i R', (List.range m).filter (fun j => !listed.getD j true) = i :: R' := by
        cases hc : (List.range m).filter (fun j => !listed.getD j true) with
        | nil => exact absurd hc hR
        | cons i R' => exact ⟨i, R', rfl⟩
      have him := (hmem i).1 (by rw [hRe]; simp)
      have hlow : ∀ j, j < i → listed.getD j false = true := by
        intro j hj
        rw [← getD_true_false (by omega)]
        cases hc : listed.getD j true with
        | true => rfl
        | false =>
          have : j ∈ i :: R' := by rw [← hRe]; exact (hmem j).2 ⟨by omega, hc⟩
          rw [hRe, List.pairwise_cons] at hpw
          rcases List.mem_cons.1 this with h1 | h1
          · omega
          · have := hpw.1 j h1; omega
      have : i ∈ Region.ready .any ops listed := by
        rw [mem_ready]
        exact ⟨him.2, ops[i]'(by omega), Array.getElem?_eq_getElem (by omega), fun e he hb => hlow _ (ok.lt i _ (Array.getElem?_eq_getElem (by omega)) e he hb)⟩
      rw [hr] at this
      cases this
    · obtain ⟨h0, o, ho, _⟩ := mem_ready.1 hi
      have hlt := (Array.getElem?_eq_some_iff.1 ho).1
      have him : i < m := by
        rcases Nat.lt_or_ge i m with h1 | h1
        · exact h1
        · exfalso
          obtain ⟨r, hr⟩ : ∃ r, r ∈ (List.range m).filter (fun j => !listed.getD j true) := by
            cases hc : (List.range m).filter (fun j => !listed.getD j true) with
            | nil => exact absurd hc hR
            | cons r R' => exact ⟨r, by simp⟩
          have hr := (hmem r).1 hr
          have := hanc i hi r (ok.tail i r h1 hlt (by omega))
          rw [← getD_true_false (by omega), hr.2] at this
          cases this
      obtain ⟨R1, R2, hsp⟩ := List.append_of_mem ((hmem i).2 ⟨him, h0⟩)
      rw [hsp] at h
      have hfree : ∀ j ∈ R1, Nonempty (Free ops o i j) := by
        intro j hj
        have hjm := (hmem j).1 (by rw [hsp]; simp [hj])
        have hji : j < i := by
          rw [hsp, List.pairwise_append] at hpw
          exact hpw.2.2 j hj i (by simp)
        have hoj : ops[j]? = some (ops[j]'(by omega)) := Array.getElem?_eq_getElem (by omega)
        obtain ⟨g1, g2⟩ := ok.free i j o _ ho hoj hji
        have g3 : anc ops i j = false := by
          cases hc : anc ops i j with
          | false => rfl
          | true =>
            have := hanc i hi j hc
            rw [← getD_true_false (by omega), hjm.2] at this
            cases this
        have g4 := g2.resolve_left (by rw [g3]; simp)
        exact ⟨⟨_, hoj, g3, g1, g4, apart_symm g4, ok.sel j _ hoj⟩⟩
      have hst := wpS_pull ho (ok.sel i o ho) hE R2 R1 a kn h (fun p hp _ => hk p hp) hfree
      have hnext : ∀ (a' : Act) (w' : World) (kn' : List (Nat × (World → Prop))), E w w' → (∀ p ∈ kn', p.2 w') → (∀ p ∈ kn', Mono E p.2) →
          wpS P E w0 ops plan (fun a w => wpList P ops Q (ops.toList.drop m) a w) (R1 ++ R2) a' kn' → wpAny P .any ops Q fuel (listed.setIfInBounds i true) a' w' := by
        intro a' w' kn' hE' hk' hm' h'
        have hfil : (List.range m).filter (fun j => !(listed.setIfInBounds i true).getD j true) = R1 ++ R2 := by
          rw [← filter_pull hsp]
          congr 1
          funext j
          by_cases hj : i = j
          · subst hj
            rw [Array.getD_eq_getD_getElem?, Array.getElem?_setIfInBounds_self, if_pos (by omega)]; simp
          · rw [getD_set_ne _ hj]
            have : (j != i) = true := by simp; omega
            rw [this, Bool.true_and]
        refine ih _ a' w' kn' (by simpa using hs) ?_ ?_ ?_ (htr _ _ _ hE hE') hk' hm' (by rw [hfil]; exact h')
        · intro k hk1 j hj
          by_cases hkj : i = j
          · subst hkj
            rw [Array.getD_eq_getD_getElem?, Array.getElem?_setIfInBounds_self, if_pos (by omega)]; rfl
          · rw [getD_set_ne _ hkj]
            by_cases hki : i = k
            · subst hki; exact hanc i hi j hj
            · rw [getD_set_ne _ hki] at hk1; exact hcl k hk1 j hj
        · intro j hj
          rw [getD_set_ne _ (by omega)]
          exact htl j hj
        · rw [hfil]
          have : ((List.range m).filter fun j => !listed.getD j true).length = (R1 ++ R2).length + 1 := by rw [hsp]; simp; omega
          omega
      unfold StepAt at hst
      unfold wpOp
      rw [ho]
      simp only
      split
      · rename_i hw
        rw [if_pos hw] at hst
        refine .inl ?_
        cases hpl : plan i with
        | some G =>
          rw [hpl] at hst
          refine hst.1.wp fun v w' hh => hnext _ _ _ hh.1 ?_ ?_ (hst.2 v (G.imp _ _ hh.2))
          · intro p hp
            rcases List.mem_cons.1 hp with rfl | hp
            · exact hh.2
            · exact hmk p hp w w' hh.1 (hk p hp)
          · intro p hp
            rcases List.mem_cons.1 hp with rfl | hp
            · exact hmono i G hpl v
            · exact hmk p hp
        | none =>
          rw [hpl] at hst
          obtain ⟨v, h1, h2⟩ := hst
          unfold Oper.wp
          rw [h1]
          exact hnext _ _ _ (hrf w) hk hmk h2
      · rename_i hw
        rw [if_neg hw] at hst
        exact hnext _ _ _ (hrf w) hk hmk hst
/-- A REGION THAT DRAWS ITS ORDER: the first m operations by the walk, whatever is behind them in the text's order. -/
theorem wp_region_S {id : Nat} {a : Act} {w : World} (m : Nat) (plan : Plan) (E : World → World → Prop) (hm : P.follows .mixedOrders = true) (hok : okS ops m = true)
    (hrf : ∀ w, E w w) (htr : ∀ a b c, E a b → E b c → E a c) (hmono : ∀ (i : Nat) (G : PG), plan i = some G → ∀ v, Mono E (G.G v))
    (hdr : E w w.drew) (h : wpS P E w ops plan (fun a w => wpList P ops Q (ops.toList.drop m) a w) (List.range m) a []) : (Code.region id ops true).wp P Q a w := by
  have ok := okS_spec hok
  refine wp_region_any hm ?_
  have hfil : (List.range m).filter (fun j => !(Array.replicate ops.size false).getD j true) = List.range m := by
    rw [List.filter_eq_self]
    intro j hj
    have := List.mem_range.1 hj
    have := ok.le
    simp [Array.getD_eq_getD_getElem?, Array.getElem?_replicate, show j < ops.size by omega]
  have hno : ∀ j, (Array.replicate ops.size false).getD j false = false := fun j => by
    simp only [Array.getD_eq_getD_getElem?, Array.getElem?_replicate]
    split <;> rfl
  refine any_of_S ok hrf htr hmono ops.size _ a w.drew [] (by simp) (fun i hi => by rw [hno] at hi; cases hi) (fun j _ => hno j) ?_ hdr (by simp) (by simp) (by rw [hfil]; exact h)
  rw [hfil, List.length_range]
  have := ok.le
  omega
def Bel (w w' : World) : Prop := Below w.heap.size w w'
theorem Bel.refl (w : World) : Bel w w := Below.refl _ w
theorem Bel.trans (a b c : World) (h : Bel a b) (h' : Bel b c) : Bel a c := Below.trans h (Below.mono h' h.size)
theorem wp_region_B {id : Nat} {l : List Oper} {a : Act} {w : World} (m : Nat) (plan : Plan) (hm : P.follows .mixedOrders = true) (hok : okS l.toArray m = true)
    (hmono : ∀ (i : Nat) (G : PG), plan i = some G → ∀ v, Mono Bel (G.G v))
    (h : wpS P Bel w l.toArray plan (fun a w => wpList P l.toArray Q (l.drop m) a w) (List.range m) a []) : (Code.region id l.toArray true).wp P Q a w :=
  wp_region_S m plan Bel hm hok Bel.refl Bel.trans hmono ⟨rfl, rfl, rfl, Nat.le_refl _, fun _ _ => rfl⟩ (by simpa using h)
/-- What a call is shown to tell, which stays told. -/
structure MG where
  pg : PG
  mono : ∀ v, Mono Bel (pg.G v)
def MG.val (x : Value) : MG := ⟨{ G := fun v _ => v = x, ok := fun v => v = x, imp := fun _ _ h => h, x0 := x, hx0 := rfl }, fun _ _ _ _ h => h⟩
def lookG : List (Nat × MG) → Nat → Option PG
  | [], _ => none
  | p :: r, k => if p.1 = k then some p.2.pg else lookG r k
theorem lookG_mono : ∀ (l : List (Nat × MG)) (k : Nat) (G : PG), lookG l k = some G → ∀ v, Mono Bel (G.G v)
  | [], _, _, h, _ => by cases h
  | p :: r, k, G, h, v => by
    unfold lookG at h
    split at h
    · injection h with h; subst h; exact p.2.mono v
    · exact lookG_mono r k G h v
/-- The walk over the operations as they are written. -/
def wpL (P : Program) (w0 : World) (ops : Array Oper) (plan : Plan) (F : Act → World → Prop) : Nat → List Oper → Act → List (Nat × (World → Prop)) → Prop
  | _, [], a, kn => ∀ w, Bel w0 w → (∀ p ∈ kn, p.2 w) → F a w
  | k, o :: rest, a, kn =>
    if Region.wanted o (yielded ops a.tmps) = true then
      match plan k with
      | some G => (∀ w, Bel w0 w → (∀ p ∈ kn, anc ops k p.1 = true → p.2 w) → StepOk P (execOp a.eval o) w fun v w' => Bel w w' ∧ G.G v w') ∧ ∀ x, G.ok x → wpL P w0 ops plan F (k + 1) rest (a.put o.dst x) ((k, G.G x) :: kn)
      | none => ∃ v, (∀ w, Bel w0 w → (∀ p ∈ kn, anc ops k p.1 = true → p.2 w) → (execOp a.eval o).run P w = .ok (.value v) w) ∧ wpL P w0 ops plan F (k + 1) rest (a.put o.dst v) kn
    else wpL P w0 ops plan F (k + 1) rest (a.put o.dst undef) kn
theorem wpS_of_L {w0 : World} {ops : Array Oper} {plan : Plan} {F : Act → World → Prop} : ∀ (r : List Oper) (k : Nat) (a : Act) (kn : List (Nat × (World → Prop))), (∀ j o, r[j]? = some o → ops[k + j]? = some o) → wpL P w0 ops plan F k r a kn →
    wpS P Bel w0 ops plan F (List.range' k r.length) a kn
  | [], k, a, kn, _, h => h
  | o :: r, k, a, kn, hr, h => by
    have ih := fun a kn => wpS_of_L (w0 := w0) (plan := plan) (F := F) r (k + 1) a kn (fun j o' hj => by have := hr (j + 1) o' (by simpa using hj); rw [← this]; congr 1; omega)
    rw [List.length_cons, List.range'_succ, wpS, show ops[k]? = some o from hr 0 o rfl]
    unfold wpL at h
    simp only
    split
    · rename_i hw
      rw [if_pos hw] at h
      cases hp : plan k with
      | some G => rw [hp] at h; exact ⟨h.1, fun x hx => ih _ _ (h.2 x hx)⟩
      | none => rw [hp] at h; obtain ⟨v, h1, h2⟩ := h; exact ⟨v, h1, ih _ _ h2⟩
    · rename_i hw
      rw [if_neg hw] at h
      exact ih _ _ h
/-- The rule, with the operations and what is behind them under names: l1 by the walk, l2 in the text's order. -/
theorem wp_region_N {id : Nat} {l : List Oper} {a : Act} {w : World} (l1 l2 : List Oper) (hl : l = l1 ++ l2) (plan : List (Nat × MG)) (hm : P.follows .mixedOrders = true) (hok : okS l.toArray l1.length = true)
    (h : ∀ (ops : Array Oper) (F : Act → World → Prop) (w0 : World) (pl : Plan), Hid (ops = l.toArray) → Hid (pl = lookG plan) → Hid (w0 = w) → Hid (∀ a w, wpList P l.toArray Q l2 a w → F a w) → wpL P w0 ops pl F 0 l1 a []) : (Code.region id l.toArray true).wp P Q a w := by
  refine wp_region_B l1.length (lookG plan) hm hok (fun i G hG v => lookG_mono _ _ _ hG v) ?_
  have := wpS_of_L l1 0 a [] (fun j o hj => by
    subst hl
    have hlt := (List.getElem?_eq_some_iff.1 hj).1
    simp only [Nat.zero_add, List.getElem?_toArray]
    rw [List.getElem?_append_left hlt]; exact hj) (h l.toArray (fun a w => wpList P l.toArray Q l2 a w) w (lookG plan) rfl rfl rfl fun _ _ h => h)
  rw [List.range_eq_range']
  subst hl
  simpa using this
/-- The first k by the walk, the others in the text's order. -/
theorem wp_region_T {id : Nat} {l : List Oper} {a : Act} {w : World} (k : Nat) (plan : List (Nat × MG)) (hm : P.follows .mixedOrders = true) (hok : okS l.toArray (l.take k).length = true)
    (h : ∀ (ops : Array Oper) (F : Act → World → Prop) (w0 : World) (pl : Plan), Hid (ops = l.toArray) → Hid (pl = lookG plan) → Hid (w0 = w) → Hid (∀ a w, wpList P l.toArray Q (l.drop k) a w → F a w) → wpL P w0 ops pl F 0 (l.take k) a []) : (Code.region id l.toArray true).wp P Q a w :=
  wp_region_N (l.take k) (l.drop k) (List.take_append_drop k l).symm plan hm hok h
theorem wp_region_A {id : Nat} {l : List Oper} {a : Act} {w : World} (plan : List (Nat × MG)) (hm : P.follows .mixedOrders = true) (hok : okS l.toArray l.length = true)
    (h : ∀ (ops : Array Oper) (F : Act → World → Prop) (w0 : World) (pl : Plan), Hid (ops = l.toArray) → Hid (pl = lookG plan) → Hid (w0 = w) → Hid (∀ a w, Q .normal a w → F a w) → wpL P w0 ops pl F 0 l a []) : (Code.region id l.toArray true).wp P Q a w :=
  wp_region_N l [] (by simp) plan hm hok fun ops F w0 pl h1 h2 h3 h4 => h ops F w0 pl h1 h2 h3 h4
end
/-! the moves of the walk -/
section
variable {P : Program} {w0 : World} {ops : Array Oper} {plan : Plan} {F : Act → World → Prop} {k : Nat} {R : List Oper} {a : Act} {kn : List (Nat × (World → Prop))} {o : Oper}
/-- An operation that reckons: its value, in whatever world. -/
theorem wpL_pure (hw : Region.wanted o (yielded ops a.tmps) = true) (hp : plan k = none) (v : Value)
    (h1 : ∀ w, Bel w0 w → (∀ p ∈ kn, anc ops k p.1 = true → p.2 w) → (execOp a.eval o).run P w = .ok (.value v) w) (h2 : wpL P w0 ops plan F (k + 1) R (a.put o.dst v) kn) : wpL P w0 ops plan F k (o :: R) a kn := by
  rw [wpL, if_pos hw, hp]
  exact ⟨v, h1, h2⟩
/-- An operation that tells something. -/
theorem wpL_fact (hw : Region.wanted o (yielded ops a.tmps) = true) {G : PG} (hp : plan k = some G)
    (h1 : ∀ w, Bel w0 w → (∀ p ∈ kn, anc ops k p.1 = true → p.2 w) → StepOk P (execOp a.eval o) w fun v w' => Bel w w' ∧ G.G v w') (h2 : ∀ x, G.ok x → wpL P w0 ops plan F (k + 1) R (a.put o.dst x) ((k, G.G x) :: kn)) : wpL P w0 ops plan F k (o :: R) a kn := by
  rw [wpL, if_pos hw, hp]
  exact ⟨h1, h2⟩
/-- An operation that is guarded away. -/
theorem wpL_skip (hw : Region.wanted o (yielded ops a.tmps) = false) (h2 : wpL P w0 ops plan F (k + 1) R (a.put o.dst undef) kn) : wpL P w0 ops plan F k (o :: R) a kn := by
  rw [wpL, if_neg (by rw [hw]; simp)]
  exact h2
theorem wpL_nil (h : ∀ w, Bel w0 w → (∀ p ∈ kn, p.2 w) → F a w) : wpL P w0 ops plan F k [] a kn := h
end
end
end Go.Proofs.YthdckgcalooipaaDoor
namespace Go.Proofs.YthdckgcalooipaaDoor
section
open Go.RowKit
set_option linter.unusedVariables false
set_option linter.unusedSimpArgs false
/-- Block g is the cells cs, of type t. -/
def Row (w : World) (g : Nat) (t : TypeId) (cs : Array Value) : Prop := w.heap[g]? = some (.cells cs t (0, 0))
section
variable {w w' : World} {g : Nat} {t : TypeId} {cs : Array Value}
theorem Row.lt (h : Row w g t cs) : g < w.heap.size := by
  rcases Nat.lt_or_ge g w.heap.size with hl | hl
  · exact hl
  · unfold Row at h; rw [Array.getElem?_eq_none hl] at h; cases h
theorem Row.cell (h : Row w g t cs) (i : Nat) : w.cell? ⟨g, i, none⟩ = cs[i]? := cell_of_row w g i cs t (0, 0) h
theorem Row.frozen (h : Row w g t cs) (i : Nat) : w.frozen? ⟨g, i, none⟩ = false := frozen_of_row w g i cs t h
theorem Row.new (w : World) (t : TypeId) (cs : Array Value) : Row (w.alloc (.cells cs t)) w.heap.size t cs := heap_alloc_new w _
theorem Row.alloc (h : Row w g t cs) (o : Obj) : Row (w.alloc o) g t cs := (Below.heap_alloc w o g h.lt).trans h
theorem Row.set_ (h : Row w g t cs) (i : Nat) (u : Value) : Row (w.setCell ⟨g, i, none⟩ u) g t (cs.setIfInBounds i u) := heap_setCell_same w g i cs t u h
theorem Row.far {p : Addr} (h : Row w g t cs) (hp : g ≠ p.block) (u : Value) : Row (w.setCell p u) g t cs := (heap_setCell_other w p g u hp).trans h
theorem Row.put (h : Row w g t cs) (cs' : Array Value) : Row (w.setRow g cs') g t cs' := setRow_heap w g cs cs' t (0, 0) h
theorem Row.farRow {g' : Nat} (h : Row w g t cs) (hp : g ≠ g') (cs' : Array Value) : Row (w.setRow g' cs') g t cs := (setRow_other w g' g cs' hp).trans h
theorem Row.bel (h : Row w g t cs) (hb : Bel w w') : Row w' g t cs := (hb.block g h.lt).trans h
theorem Row.below {B : Nat} (h : Row w g t cs) (hb : Below B w w') (hg : g < B) : Row w' g t cs := (hb.block g hg).trans h
theorem below_setRow_ {B : Nat} {w0 : World} (hb : Below B w0 w) (hBg : B ≤ g) (cs : Array Value) : Below B w0 (w.setRow g cs) :=
  ⟨hb.os, hb.tape, hb.output, Nat.le_trans hb.size (Nat.le_of_eq (setRow_size w g cs).symm), fun k hk => (setRow_other w g k cs (by omega)).trans (hb.block k hk)⟩
end
/-- Only block g is written. -/
structure Upd (g : Nat) (w w' : World) : Prop where
  os : w'.os = w.os
  tape : w'.tape = w.tape
  output : w'.output = w.output
  size : w'.heap.size = w.heap.size
  block : ∀ k, k ≠ g → w'.heap[k]? = w.heap[k]?
theorem Upd.setRow (w : World) (g : Nat) (cs : Array Value) : Upd g w (w.setRow g cs) := ⟨rfl, rfl, rfl, setRow_size w g cs, fun k hk => setRow_other w g k cs hk⟩
theorem Upd.setCell (w : World) (g i : Nat) (v : Value) : Upd g w (w.setCell ⟨g, i, none⟩ v) :=
  ⟨rfl, rfl, rfl, by simp [World.setCell], fun k hk => heap_setCell_other w ⟨g, i, none⟩ k v hk⟩
theorem Upd.trans {g : Nat} {a b c : World} (h : Upd g a b) (h' : Upd g b c) : Upd g a c :=
  ⟨h'.os.trans h.os, h'.tape.trans h.tape, h'.output.trans h.output, h'.size.trans h.size, fun k hk => (h'.block k hk).trans (h.block k hk)⟩
theorem Row.upd {w w' : World} {g g' : Nat} {t : TypeId} {cs : Array Value} (h : Row w g' t cs) (hu : Upd g w w') (hne : g' ≠ g) : Row w' g' t cs := (hu.block g' hne).trans h
theorem below_upd {w0 w w' : World} {B g : Nat} (hb : Below B w0 w) (hu : Upd g w w') (hB : B ≤ g) : Below B w0 w' :=
  ⟨hu.os.trans hb.os, hu.tape.trans hb.tape, hu.output.trans hb.output, by rw [hu.size]; exact hb.size, fun k hk => (hu.block k (by omega)).trans (hb.block k hk)⟩
theorem below_bel {w0 w w' : World} {B : Nat} (hb : Below B w0 w) (h : Bel w w') (hB : B ≤ w.heap.size) : Below B w0 w' := hb.trans (h.mono hB)
section
variable {P : Program} {ops : Array Oper} {rest : List Oper} {o : Oper} {a : Act} {w : World} {Q : Exit → Act → World → Prop}
theorem bel_alloc (w : World) (o : Obj) : Bel w (w.alloc o) := (Below.refl _ _).alloc (Nat.le_refl _) _
/-- 'alloc t' of an array. -/
theorem wpList_alloc_arr (hgd : o.guard = none) {t : TypeId} (ho : o.op = .alloc t) {Z : Array Value} (hz : ∀ w, (zeroValue t).run P w = .ok (.agg Z) w)
    (h : ∀ g w', w.heap.size ≤ g → Row w' g t Z → Bel w w' → wpList P ops Q rest (a.put o.dst (.pointer (some ⟨g, 0, none⟩))) w') : wpList P ops Q (o :: rest) a w := by
  refine wpList_plain hgd fun K hK => ?_
  unfold Oper.wp execOp
  simp only [ho, Instr.alloc, Sem.run_bind, hz, Result.andThen_ok, newVar, newRow, newObj, Value.cells]
  exact hK _ _ (h w.heap.size _ (Nat.le_refl _) (Row.new w t Z) (bel_alloc w _))
/-- 'box t x' of an array. -/
theorem wpList_box_arr (hgd : o.guard = none) {t : TypeId} {x : Operand} (ho : o.op = .box t x) {cs : Array Value} (hx : a.eval x = .agg cs)
    (h : ∀ g w', w.heap.size ≤ g → Row w' g t cs → Bel w w' → wpList P ops Q rest (a.put o.dst (.pointer (some ⟨g, 0, none⟩))) w') : wpList P ops Q (o :: rest) a w := by
  refine wpList_plain hgd fun K hK => ?_
  unfold Oper.wp execOp
  simp only [ho, hx, Instr.box, Sem.run_bind, Result.andThen_ok, newVar, newRow, newObj, Value.cells]
  exact hK _ _ (h w.heap.size _ (Nat.le_refl _) (Row.new w t cs) (bel_alloc w _))
/-- A whole array out of its block. -/
theorem wpList_load_arr (hgd : o.guard = none) {ty : TypeId} {x : Operand} (ho : o.op = .load ty x) {g : Nat} (hx : a.eval x = .pointer (some ⟨g, 0, none⟩)) {t : TypeId} {cs : Array Value} (hg : Row w g t cs)
    {n : Nat} {e : TypeId} (hu : P.underlying ty = some (.array n e)) (hi : (P.info? ty).map (·.size) = some cs.size)
    (h : wpList P ops Q rest (a.put o.dst (.agg cs)) w) : wpList P ops Q (o :: rest) a w :=
  wpList_load_row hgd ty x ho g hx t cs (0, 0) _ hg hu rfl hi h
/-- A whole array into its block. -/
theorem wpList_store_arr (hgd : o.guard = none) {ty : TypeId} {x y : Operand} (ho : o.op = .store ty x y) {g : Nat} {cells : Array Value} (hx : a.eval x = .pointer (some ⟨g, 0, none⟩)) (hy : a.eval y = .agg cells)
    {t : TypeId} {old : Array Value} (hg : Row w g t old) (hi : (P.info? ty).map (·.size) = some cells.size) (hold : old.size = cells.size) (h1 : cells.all (·.oneCell') = true)
    (h : ∀ w', Row w' g t cells → Upd g w w' → wpList P ops Q rest (a.put o.dst undef) w') : wpList P ops Q (o :: rest) a w :=
  wpList_store_row hgd ty x y ho g cells hx hy t old hg hi hold h1 (h _ (hg.put cells) (Upd.setRow w g cells))
/-- The result, a whole array. -/
theorem ret_arr {fn : Func} {R : Ending → World → Prop} {p : Tmp} {ty : TypeId} {tmps : Array Value} (h : fn.results = #[.cell p ty]) {g : Nat} {t : TypeId} {cs : Array Value} (hp : tmps.getD p undef = .pointer (some ⟨g, 0, none⟩)) (hg : Row w g t cs)
    {n : Nat} {e : TypeId} (hu : P.underlying ty = some (.array n e)) (hi : (P.info? ty).map (·.size) = some cs.size) (hR : R (.returned (.agg cs)) w) : bodyPost P fn R .ret ⟨tmps, []⟩ w :=
  bodyPost_ret (results_cell_row h tmps w g t cs (0, 0) _ hp hg hu rfl hi) rfl hR
theorem cells_one {v : Value} (hv : v.oneCell' = true) : v.cells = #[v] := by cases v <;> first | rfl | (simp [Value.oneCell'] at hv)
/-- One cell, stored. -/
theorem wpList_store_cell (hgd : o.guard = none) {ty : TypeId} {x y : Operand} (ho : o.op = .store ty x y) {g i : Nat} {v : Value} (hx : a.eval x = .pointer (some ⟨g, i, none⟩)) (hy : a.eval y = v) (hv : v.oneCell' = true)
    {t : TypeId} {old : Array Value} (hg : Row w g t old) (hi : (P.info? ty).map (·.size) = some 1) (hlt : i < old.size)
    (h : ∀ w', Row w' g t (old.setIfInBounds i v) → Upd g w w' → wpList P ops Q rest (a.put o.dst undef) w') : wpList P ops Q (o :: rest) a w := by
  refine wpList_plain hgd fun K hK => ?_
  have hc : w.cell? ⟨g, i, none⟩ = some old[i] := (hg.cell i).trans (Array.getElem?_eq_getElem hlt)
  have hf := hg.frozen i
  have hadd : (⟨g, i, none⟩ : Addr).add 0 = ⟨g, i, none⟩ := by simp [Addr.add]
  have hr : (store ⟨g, i, none⟩ v).run P w = .ok () (w.setCell ⟨g, i, none⟩ v) := by rw [run_store P w _ v _ hv]; simp [hc, hf]
  cases hq : P.info? ty with
  | none => simp [hq] at hi
  | some inf =>
    have hs : inf.size = 1 := by simpa [hq] using hi
    unfold Oper.wp execOp
    simp [ho, hx, hy, Instr.storeAt, Instr.sureAddr, storeVar, sizeOf, typeInfo, hq, hs, cells_one hv, storeCells, hadd, hr]
    exact hK _ _ (h _ (hg.set_ i _) (Upd.setCell w g i _))
end
/-- An element of an array that is a value. -/
theorem run_index_arr {P : Program} {t e : TypeId} {n : Nat} {k kk : IntKind} {cs : Array Value} {v : Value} {j : Int} {w : World} (hu : P.underlying t = some (.array n e)) (he : P.underlying e = some (.int k)) (hs : (P.info? e).map (·.size) = some 1) (h0 : 0 ≤ j) (h : j < n) (hc : cs[j.toNat]? = some v) :
    (Instr.index t (.agg cs) (.int kk j)).run P w = .ok v w := by
  cases hq : P.info? e with
  | none => simp [hq] at hs
  | some inf =>
    have hs' : inf.size = 1 := by simpa [hq] using hs
    simp [Instr.index, asIntOf, run_underlying hu, run_underlying he, sizeOf, typeInfo, hq, hs', h0, h, part, isAgg, hc]
end
end Go.Proofs.YthdckgcalooipaaDoor
namespace Go.Proofs.YthdckgcalooipaaDoor
section
open Go.RowKit
def MG.sl {α : Type} (d : Kd α) (hs : 0 < d.sz) (O : Nat → Prop) (xs : List α) : MG :=
  ⟨{ G := fun v w => Sl d w O v xs, ok := fun v => ∃ A n c, v = .slice A n c, imp := fun v w h => (by obtain ⟨A, c, rfl, _, _⟩ := h.val; exact ⟨_, _, _, rfl⟩), x0 := .slice none 0 0, hx0 := ⟨_, _, _, rfl⟩ },
    fun v w w' hb h => h.keep hs (keeps_of hb _)⟩
/-- Just this value. -/
theorem wpL_val {P : Program} {w0 : World} {ops : Array Oper} {plan : Plan} {F : Act → World → Prop} {k : Nat} {R : List Oper} {a : Act} {kn : List (Nat × (World → Prop))} {o : Oper} {u : Value}
    (hw : Region.wanted o (yielded ops a.tmps) = true) (hp : plan k = some (MG.val u).pg)
    (h1 : ∀ w, Bel w0 w → (∀ p ∈ kn, anc ops k p.1 = true → p.2 w) → StepOk P (execOp a.eval o) w fun v w' => v = u ∧ Bel w w')
    (h2 : wpL P w0 ops plan F (k + 1) R (a.put o.dst u) ((k, (MG.val u).pg.G u) :: kn)) : wpL P w0 ops plan F k (o :: R) a kn :=
  wpL_fact hw hp (fun w hE hK => by
    have := h1 w hE hK
    unfold StepOk at this ⊢
    generalize (execOp a.eval o).run P w = r at *
    cases r with
    | ok n w' =>
      cases n <;> simp only at this ⊢
      case value v => exact ⟨this.2, this.1⟩
      case skip => exact ⟨this.2, this.1⟩
      case enter f args => exact this.mono fun e w'' he => by cases e <;> first | exact ⟨he.2, he.1⟩ | exact he
      case row row args => exact this.mono fun v w'' he => ⟨he.2, he.1⟩
    | halt x w' => exact this) (fun x hx => by
    have hx' : x = u := hx
    subst hx'
    exact h2)
end
end Go.Proofs.YthdckgcalooipaaDoor
namespace Go.Proofs.YthdckgcalooipaaDoor
section
set_option linter.unusedVariables false
def sg0 (x : UInt32) : UInt32 := rotr x 7 ^^^ rotr x 18 ^^^ (x >>> 3)
def sg1 (x : UInt32) : UInt32 := rotr x 17 ^^^ rotr x 19 ^^^ (x >>> 10)
def bg0 (x : UInt32) : UInt32 := rotr x 2 ^^^ rotr x 13 ^^^ rotr x 22
def bg1 (x : UInt32) : UInt32 := rotr x 6 ^^^ rotr x 11 ^^^ rotr x 25
def wnext (l : List UInt32) (t : Nat) : UInt32 := l.getD (t - 16) 0 + sg0 (l.getD (t - 15) 0) + l.getD (t - 7) 0 + sg1 (l.getD (t - 2) 0)
def spr (l : List UInt32) : Nat → List UInt32
  | 0 => l
  | n + 1 => (spr l n).set (16 + n) (wnext (spr l n) (16 + n))
def beU (l : List UInt8) : UInt32 := l.foldl (fun n x => (n <<< 8) ||| x.toUInt32) 0
/-- The words when i octets have been taken in. -/
def pw (b : List UInt8) (i : Nat) : List UInt32 := (List.range 64).map fun j => beU (((b.take i).drop (4 * j)).take 4)
def spread (b : List UInt8) : List UInt32 := spr (pw b 64) 48
theorem spr_len (l : List UInt32) : ∀ n, (spr l n).length = l.length
  | 0 => rfl
  | n + 1 => by rw [spr, List.length_set, spr_len l n]
theorem pw_len (b : List UInt8) (i : Nat) : (pw b i).length = 64 := by simp [pw]
theorem pw_zero (b : List UInt8) : pw b 0 = List.replicate 64 0 := by
  unfold pw; simp [beU]; rfl
theorem pw_succ (b : List UInt8) (i : Nat) (h : i < b.length) (hi : i < 64) : pw b (i + 1) = (pw b i).set (i / 4) (((pw b i)[i / 4]'(by rw [pw_len]; omega) <<< 8) ||| b[i].toUInt32) := by
  have ht : b.take (i + 1) = b.take i ++ [b[i]] := List.take_succ_eq_append_getElem h
  have hl : (b.take i).length = i := by rw [List.length_take]; omega
  apply List.ext_getElem
  · simp [pw]
  · intro j h1 h2
    rw [List.getElem_set]
    simp only [pw, List.getElem_map, List.getElem_range]
    rw [ht]
    split
    · rename_i hj
      subst hj
      rw [List.drop_append_of_le_length (by omega), List.take_of_length_le (l := _ ++ _) (by simp; omega), List.take_of_length_le (l := List.drop _ _) (by simp; omega)]
      unfold beU
      rw [List.foldl_append]
      rfl
    · rename_i hj
      rcases Nat.lt_or_ge j (i / 4) with hlt | hge
      · rw [List.drop_append_of_le_length (by omega), List.take_append_of_le_length (by rw [List.length_drop]; omega)]
      · have : i < 4 * j := by omega
        rw [List.drop_eq_nil_of_le (by simp; omega), List.drop_eq_nil_of_le (by omega)]
/-- One round. -/
structure BSt where
  a : UInt32
  b : UInt32
  c : UInt32
  d : UInt32
  e : UInt32
  f : UInt32
  g : UInt32
  z : UInt32
deriving DecidableEq
def chf (e f g : UInt32) : UInt32 := g ^^^ (e &&& (f ^^^ g))
def maj (a b c : UInt32) : UInt32 := ((a &&& b) ^^^ (a &&& c)) ^^^ (b &&& c)
def rp (s : BSt) (n w : UInt32) : UInt32 := s.z + bg1 s.e + chf s.e s.f s.g + n + w
def rq (s : BSt) : UInt32 := bg0 s.a + maj s.a s.b s.c
def rnd (s : BSt) (n w : UInt32) : BSt := ⟨rp s n w + rq s, s.a, s.b, s.c, s.d + rp s n w, s.e, s.f, s.g⟩
def BSt.list (s : BSt) : List UInt32 := [s.a, s.b, s.c, s.d, s.e, s.f, s.g, s.z]
def nums : List UInt32 := [1116352408, 1899447441, 3049323471, 3921009573, 961987163, 1508970993, 2453635748, 2870763221, 3624381080, 310598401, 607225278, 1426881987, 1925078388, 2162078206, 2614888103, 3248222580, 3835390401, 4022224774, 264347078, 604807628, 770255983, 1249150122, 1555081692, 1996064986, 2554220882, 2821834349, 2952996808, 3210313671, 3336571891, 3584528711, 113926993, 338241895, 666307205, 773529912, 1294757372, 1396182291, 1695183700, 1986661051, 2177026350, 2456956037, 2730485921, 2820302411, 3259730800, 3345764771, 3516065817, 3600352804, 4094571909, 275423344, 430227734, 506948616, 659060556, 883997877, 958139571, 1322822218, 1537002063, 1747873779, 1955562222, 2024104815, 2227730452, 2361852424, 2428436474, 2756734187, 3204031479, 3329325298]
def rounds (b : List UInt8) (s : BSt) : Nat → BSt
  | 0 => s
  | t + 1 => rnd (rounds b s t) (nums.getD t 0) ((spread b).getD t 0)
def stOf (h : List UInt32) : BSt := ⟨h.getD 0 0, h.getD 1 0, h.getD 2 0, h.getD 3 0, h.getD 4 0, h.getD 5 0, h.getD 6 0, h.getD 7 0⟩
def mix (h : List UInt32) (b : List UInt8) : List UInt32 := List.zipWith (· + ·) h (rounds b (stOf h) 64).list
end
end Go.Proofs.YthdckgcalooipaaDoor
namespace Go.Proofs.YthdckgcalooipaaDoor
section
open Go.RowKit
set_option linter.unusedVariables false
set_option linter.unusedSimpArgs false
theorem w64_info : (Tryd.prog.info? 53).map (fun i => (i.zero, i.size)) = some (some (.agg (u32s (List.replicate 64 0))), 64) := by kernel_rfl
theorem w8_info : (Tryd.prog.info? 23).map (fun i => (i.zero, i.size)) = some (some (.agg (u32s (List.replicate 8 0))), 8) := by kernel_rfl
theorem b64_info : (Tryd.prog.info? 44).map (fun i => (i.zero, i.size)) = some (some (.agg (b8s (List.replicate 64 0))), 64) := by kernel_rfl
theorem w64_und : Tryd.prog.underlying 53 = some (.array 64 22) := by kernel_rfl
theorem w8_und : Tryd.prog.underlying 23 = some (.array 8 22) := by kernel_rfl
theorem b64_und : Tryd.prog.underlying 44 = some (.array 64 5) := by kernel_rfl
theorem u32s_size (l : List UInt32) : (u32s l).size = l.length := by simp [u32s]
theorem b8s_size (l : List UInt8) : (b8s l).size = l.length := by simp [b8s]
theorem u32s_one (l : List UInt32) : (u32s l).all (·.oneCell') = true := by simp [u32s, List.all_map]; intro x _; rfl
theorem b8s_one (l : List UInt8) : (b8s l).all (·.oneCell') = true := by simp [b8s, List.all_map]; intro x _; rfl
theorem u32s_get (l : List UInt32) (i : Nat) (h : i < l.length) : (u32s l)[i]? = some (.int .u32 (wv (l.getD i 0))) := by simp [u32s, h]
theorem b8s_get (l : List UInt8) (i : Nat) (h : i < l.length) : (b8s l)[i]? = some (.int .u8 (l.getD i 0).toNat) := by simp [b8s, h]
theorem u32s_set (l : List UInt32) (i : Nat) (x : UInt32) : (u32s l).setIfInBounds i (.int .u32 (wv x)) = u32s (l.set i x) := by simp [u32s, List.map_set]
theorem Row.w32 {w : World} {g : Nat} {t : TypeId} {l : List UInt32} (h : Row w g t (u32s l)) {i : Nat} (hi : i < l.length) : w.cell? ⟨g, i, none⟩ = some (.int .u32 (wv (l.getD i 0))) := (h.cell i).trans (u32s_get l i hi)
theorem Row.w8 {w : World} {g : Nat} {t : TypeId} {l : List UInt8} (h : Row w g t (b8s l)) {i : Nat} (hi : i < l.length) : w.cell? ⟨g, i, none⟩ = some (.int .u8 (l.getD i 0).toNat) := (h.cell i).trans (b8s_get l i hi)
/-- math/bits.RotateLeft32, to the right by n. -/
def rk (k : Int) : UInt32 := UInt32.ofNat (-k).toNat
theorem rot_calls (x : UInt32) (k : Int) (w : World) (h : k ∈ [(-7 : Int), -18, -17, -19, -6, -11, -25, -2, -13, -22]) :
    Calls Tryd.prog 37 #[.int .u32 (wv x), .int .i64 k] w fun e w' => e = .returned (.int .u32 (wv (rotr x (rk k)))) ∧ w = w' := by
  simp only [List.mem_cons, List.not_mem_nil, or_false] at h
  rcases h with rfl | rfl | rfl | rfl | rfl | rfl | rfl | rfl | rfl | rfl
  · have hk : bits .and .u64 (IntKind.u64.wrap (-7)) 31 = 25 := by decide
    go_enter Tryd.func37, Tryd.ntmps37
    go_wp2
    go_ret
    exact ⟨ret_int (by rw [UInt32.or_comm]; rfl), rfl⟩
  · have hk : bits .and .u64 (IntKind.u64.wrap (-18)) 31 = 14 := by decide
    go_enter Tryd.func37, Tryd.ntmps37
    go_wp2
    go_ret
    exact ⟨ret_int (by rw [UInt32.or_comm]; rfl), rfl⟩
  · have hk : bits .and .u64 (IntKind.u64.wrap (-17)) 31 = 15 := by decide
    go_enter Tryd.func37, Tryd.ntmps37
    go_wp2
    go_ret
    exact ⟨ret_int (by rw [UInt32.or_comm]; rfl), rfl⟩
  · have hk : bits .and .u64 (IntKind.u64.wrap (-19)) 31 = 13 := by decide
    go_enter Tryd.func37, Tryd.ntmps37
    go_wp2
    go_ret
    exact ⟨ret_int (by rw [UInt32.or_comm]; rfl), rfl⟩
  · have hk : bits .and .u64 (IntKind.u64.wrap (-6)) 31 = 26 := by decide
    go_enter Tryd.func37, Tryd.ntmps37
    go_wp2
    go_ret
    exact ⟨ret_int (by rw [UInt32.or_comm]; rfl), rfl⟩
  · have hk : bits .and .u64 (IntKind.u64.wrap (-11)) 31 = 21 := by decide
    go_enter Tryd.func37, Tryd.ntmps37
    go_wp2
    go_ret
    exact ⟨ret_int (by rw [UInt32.or_comm]; rfl), rfl⟩
  · have hk : bits .and .u64 (IntKind.u64.wrap (-25)) 31 = 7 := by decide
    go_enter Tryd.func37, Tryd.ntmps37
    go_wp2
    go_ret
    exact ⟨ret_int (by rw [UInt32.or_comm]; rfl), rfl⟩
  · have hk : bits .and .u64 (IntKind.u64.wrap (-2)) 31 = 30 := by decide
    go_enter Tryd.func37, Tryd.ntmps37
    go_wp2
    go_ret
    exact ⟨ret_int (by rw [UInt32.or_comm]; rfl), rfl⟩
  · have hk : bits .and .u64 (IntKind.u64.wrap (-13)) 31 = 19 := by decide
    go_enter Tryd.func37, Tryd.ntmps37
    go_wp2
    go_ret
    exact ⟨ret_int (by rw [UInt32.or_comm]; rfl), rfl⟩
  · have hk : bits .and .u64 (IntKind.u64.wrap (-22)) 31 = 10 := by decide
    go_enter Tryd.func37, Tryd.ntmps37
    go_wp2
    go_ret
    exact ⟨ret_int (by rw [UInt32.or_comm]; rfl), rfl⟩
theorem turned_calls (x : UInt32) (a b c : Int) (k m n : UInt32) (w : World) (h : (a, b, c, k, m, n) ∈ [((6 : Int), (11 : Int), (25 : Int), (6 : UInt32), (11 : UInt32), (25 : UInt32)), (2, 13, 22, 2, 13, 22)]) :
    Calls Tryd.prog 31 #[.int .u32 (wv x), .int .i64 a, .int .i64 b, .int .i64 c] w fun e w' => e = .returned (.int .u32 (wv (rotr x k ^^^ rotr x m ^^^ rotr x n))) ∧ w = w' := by
  simp only [List.mem_cons, Prod.mk.injEq, List.not_mem_nil, or_false] at h
  rcases h with ⟨rfl, rfl, rfl, rfl, rfl, rfl⟩ | ⟨rfl, rfl, rfl, rfl, rfl, rfl⟩
  · go_enter Tryd.func31, Tryd.ntmps31
    go_wp2_with (go_at_call 37; refine (rot_calls x _ _ (by decide)).mono ?_; rintro e w' ⟨rfl, rfl⟩)
    go_ret
    exact ⟨ret_int rfl, rfl⟩
  · go_enter Tryd.func31, Tryd.ntmps31
    go_wp2_with (go_at_call 37; refine (rot_calls x _ _ (by decide)).mono ?_; rintro e w' ⟨rfl, rfl⟩)
    go_ret
    exact ⟨ret_int rfl, rfl⟩
theorem moved_calls (x : UInt32) (a b c : Int) (k m n : UInt32) (w : World) (h : (a, b, c, k, m, n) ∈ [((7 : Int), (18 : Int), (3 : Int), (7 : UInt32), (18 : UInt32), (3 : UInt32)), (17, 19, 10, 17, 19, 10)]) :
    Calls Tryd.prog 36 #[.int .u32 (wv x), .int .i64 a, .int .i64 b, .int .i64 c] w fun e w' => e = .returned (.int .u32 (wv (rotr x k ^^^ rotr x m ^^^ (x >>> n)))) ∧ Below w.heap.size w w' := by
  simp only [List.mem_cons, Prod.mk.injEq, List.not_mem_nil, or_false] at h
  rcases h with ⟨rfl, rfl, rfl, rfl, rfl, rfl⟩ | ⟨rfl, rfl, rfl, rfl, rfl, rfl⟩
  · go_enter Tryd.func36, Tryd.ntmps36
    go_wp2
    try simp only [Act.put, List.setIfInBounds_toArray, List.set_cons_succ, List.set_cons_zero, Nat.reduceAdd, Nat.zero_add]
    refine wp_region_A [(3, MG.val (.int .u32 (wv (rotr x 7)))), (7, MG.val (.int .u32 (wv (rotr x 18))))] (by kernel_rfl) (by kernel_rfl) ?_
    intro ops F w0 pl hops hpl hw0 hF
    have hw0' := hw0.out
    subst hw0'
    repeat (first | (refine wpL_pure (by first | rfl | (rw [hops.out]; rfl)) (by rw [hpl.out]; rfl) ?_ (fun wq hE hK => ?_) ?_; rotate_left; (clear hE hK; go_simp; rfl); (simp only [Act.put, List.setIfInBounds_toArray, List.set_cons_succ, List.set_cons_zero, Nat.reduceAdd, Nat.zero_add])) | (refine wpL_skip (by first | rfl | (rw [hops.out]; rfl)) ?_; simp only [Act.put, List.setIfInBounds_toArray, List.set_cons_succ, List.set_cons_zero, Nat.reduceAdd, Nat.zero_add]))
    refine wpL_val (u := .int .u32 (wv (rotr x 7))) (by first | rfl | (rw [hops.out]; rfl)) (by rw [hpl.out]; rfl) (fun wq hE hK => ?_) ?_
    · unfold StepOk
      go_simp
      refine (rot_calls x _ _ (by decide)).mono ?_
      rintro e w' ⟨rfl, rfl⟩
      exact ⟨rfl, Below.refl _ _⟩
    simp only [Act.put, List.setIfInBounds_toArray, List.set_cons_succ, List.set_cons_zero, Nat.reduceAdd, Nat.zero_add]
    repeat (first | (refine wpL_pure (by first | rfl | (rw [hops.out]; rfl)) (by rw [hpl.out]; rfl) ?_ (fun wq hE hK => ?_) ?_; rotate_left; (clear hE hK; go_simp; rfl); (simp only [Act.put, List.setIfInBounds_toArray, List.set_cons_succ, List.set_cons_zero, Nat.reduceAdd, Nat.zero_add])) | (refine wpL_skip (by first | rfl | (rw [hops.out]; rfl)) ?_; simp only [Act.put, List.setIfInBounds_toArray, List.set_cons_succ, List.set_cons_zero, Nat.reduceAdd, Nat.zero_add]))
    refine wpL_val (u := .int .u32 (wv (rotr x 18))) (by first | rfl | (rw [hops.out]; rfl)) (by rw [hpl.out]; rfl) (fun wq hE hK => ?_) ?_
    · unfold StepOk
      go_simp
      refine (rot_calls x _ _ (by decide)).mono ?_
      rintro e w' ⟨rfl, rfl⟩
      exact ⟨rfl, Below.refl _ _⟩
    simp only [Act.put, List.setIfInBounds_toArray, List.set_cons_succ, List.set_cons_zero, Nat.reduceAdd, Nat.zero_add]
    repeat (first | (refine wpL_pure (by first | rfl | (rw [hops.out]; rfl)) (by rw [hpl.out]; rfl) ?_ (fun wq hE hK => ?_) ?_; rotate_left; (clear hE hK; go_simp; rfl); (simp only [Act.put, List.setIfInBounds_toArray, List.set_cons_succ, List.set_cons_zero, Nat.reduceAdd, Nat.zero_add])) | (refine wpL_skip (by first | rfl | (rw [hops.out]; rfl)) ?_; simp only [Act.put, List.setIfInBounds_toArray, List.set_cons_succ, List.set_cons_zero, Nat.reduceAdd, Nat.zero_add]))
    refine wpL_nil fun w' hE hK => hF.out _ _ ?_
    go_wp2
    go_ret
    exact ⟨rfl, hE⟩
  · go_enter Tryd.func36, Tryd.ntmps36
    go_wp2
    try simp only [Act.put, List.setIfInBounds_toArray, List.set_cons_succ, List.set_cons_zero, Nat.reduceAdd, Nat.zero_add]
    refine wp_region_A [(3, MG.val (.int .u32 (wv (rotr x 17)))), (7, MG.val (.int .u32 (wv (rotr x 19))))] (by kernel_rfl) (by kernel_rfl) ?_
    intro ops F w0 pl hops hpl hw0 hF
    have hw0' := hw0.out
    subst hw0'
    repeat (first | (refine wpL_pure (by first | rfl | (rw [hops.out]; rfl)) (by rw [hpl.out]; rfl) ?_ (fun wq hE hK => ?_) ?_; rotate_left; (clear hE hK; go_simp; rfl); (simp only [Act.put, List.setIfInBounds_toArray, List.set_cons_succ, List.set_cons_zero, Nat.reduceAdd, Nat.zero_add])) | (refine wpL_skip (by first | rfl | (rw [hops.out]; rfl)) ?_; simp only [Act.put, List.setIfInBounds_toArray, List.set_cons_succ, List.set_cons_zero, Nat.reduceAdd, Nat.zero_add]))
    refine wpL_val (u := .int .u32 (wv (rotr x 17))) (by first | rfl | (rw [hops.out]; rfl)) (by rw [hpl.out]; rfl) (fun wq hE hK => ?_) ?_
    · unfold StepOk
      go_simp
      refine (rot_calls x _ _ (by decide)).mono ?_
      rintro e w' ⟨rfl, rfl⟩
      exact ⟨rfl, Below.refl _ _⟩
    simp only [Act.put, List.setIfInBounds_toArray, List.set_cons_succ, List.set_cons_zero, Nat.reduceAdd, Nat.zero_add]
    repeat (first | (refine wpL_pure (by first | rfl | (rw [hops.out]; rfl)) (by rw [hpl.out]; rfl) ?_ (fun wq hE hK => ?_) ?_; rotate_left; (clear hE hK; go_simp; rfl); (simp only [Act.put, List.setIfInBounds_toArray, List.set_cons_succ, List.set_cons_zero, Nat.reduceAdd, Nat.zero_add])) | (refine wpL_skip (by first | rfl | (rw [hops.out]; rfl)) ?_; simp only [Act.put, List.setIfInBounds_toArray, List.set_cons_succ, List.set_cons_zero, Nat.reduceAdd, Nat.zero_add]))
    refine wpL_val (u := .int .u32 (wv (rotr x 19))) (by first | rfl | (rw [hops.out]; rfl)) (by rw [hpl.out]; rfl) (fun wq hE hK => ?_) ?_
    · unfold StepOk
      go_simp
      refine (rot_calls x _ _ (by decide)).mono ?_
      rintro e w' ⟨rfl, rfl⟩
      exact ⟨rfl, Below.refl _ _⟩
    simp only [Act.put, List.setIfInBounds_toArray, List.set_cons_succ, List.set_cons_zero, Nat.reduceAdd, Nat.zero_add]
    repeat (first | (refine wpL_pure (by first | rfl | (rw [hops.out]; rfl)) (by rw [hpl.out]; rfl) ?_ (fun wq hE hK => ?_) ?_; rotate_left; (clear hE hK; go_simp; rfl); (simp only [Act.put, List.setIfInBounds_toArray, List.set_cons_succ, List.set_cons_zero, Nat.reduceAdd, Nat.zero_add])) | (refine wpL_skip (by first | rfl | (rw [hops.out]; rfl)) ?_; simp only [Act.put, List.setIfInBounds_toArray, List.set_cons_succ, List.set_cons_zero, Nat.reduceAdd, Nat.zero_add]))
    refine wpL_nil fun w' hE hK => hF.out _ _ ?_
    go_wp2
    go_ret
    exact ⟨rfl, hE⟩
end
end Go.Proofs.YthdckgcalooipaaDoor
namespace Go.Proofs.YthdckgcalooipaaDoor
section
open Go.RowKit
set_option linter.unusedVariables false
set_option linter.unusedSimpArgs false
theorem wrap_small {n : Int} (h0 : 0 ≤ n) (h1 : n < 9223372036854775808) : IntKind.i64.wrap n = n := by rw [IntKind.wrap_i64]; omega
def firsts : List UInt32 := [1779033703, 3144134277, 1013904242, 2773480762, 1359893119, 2600822924, 528734635, 1541459225]
theorem size_of {P : Program} {t : TypeId} {v : Value} {n : Nat} (h : (P.info? t).map (fun i => (i.zero, i.size)) = some (some v, n)) : (P.info? t).map (·.size) = some n := (zero_of_info h).2
theorem und_u32 : Tryd.prog.underlying 22 = some (.int .u32) := by kernel_rfl
theorem und_u8 : Tryd.prog.underlying 5 = some (.int .u8) := by kernel_rfl
theorem u32_one : (Tryd.prog.info? 22).map (·.size) = some 1 := by kernel_rfl
theorem u8_one : (Tryd.prog.info? 5).map (·.size) = some 1 := by kernel_rfl
theorem idx_b (b : List UInt8) (hb : b.length = 64) (j : Nat) (h : j < 64) (w : World) : (Instr.index 44 (.agg (b8s b)) (.int .i64 (j : Int))).run Tryd.prog w = .ok (.int .u8 (b.getD j 0).toNat) w :=
  run_index_arr b64_und und_u8 u8_one (by omega) (by omega) (b8s_get b _ (by omega))
set_option maxHeartbeats 1000000 in
set_option maxRecDepth 100000 in
theorem spread_calls (b : List UInt8) (hb : b.length = 64) (w : World) :
    Calls Tryd.prog 30 #[.agg (b8s b)] w fun e w' => e = .returned (.agg (u32s (spread b))) ∧ Below w.heap.size w w' := by
  have hz := Lib.hid (zero_of_info w64_info).1
  obtain ⟨Z, hZ⟩ : ∃ Z, Z = u32s (List.replicate 64 0) := ⟨_, rfl⟩
  rw [← hZ] at hz
  obtain ⟨B, hB⟩ : ∃ B, B = b8s b := ⟨_, rfl⟩
  have hBs : B.size = 64 := by rw [hB, b8s_size, hb]
  rw [← hB]
  have HBS := Lib.hid hBs
  have HB0 := Lib.hid hB
  have HZ := Lib.hid hZ
  clear hBs hB hZ
  go_enter Tryd.func30, Tryd.ntmps30
  go_wp2_with (first
    | (refine wpList_load_arr rfl rfl rfl r1 b64_und ((size_of b64_info).trans (by rw [HBS.out])) ?_)
    | (refine wpList_box_arr rfl rfl rfl ?_; intro g1 w1 hg1 r1 hb1; have l1 := r1.lt)
    | (replace r2 := r2; refine wpList_alloc_arr rfl rfl hz.out ?_; intro g3 w3 hg3 r3 hb3; replace r1 := r1.bel hb3; replace r2 := r2.bel hb3)
    | (refine wpList_alloc_arr rfl rfl hz.out ?_; intro g2 w2 hg2 r2 hb2; replace r1 := r1.bel hb2; have l2 := r2.lt))
  have hb := Bel.trans _ _ _ (Bel.trans _ _ _ hb1 hb2) hb3
  have HB := Lib.hid hb
  rw [HZ.out, ← pw_zero b] at r3
  rw [HZ.out] at r2
  have hg23 : g2 < g3 := by omega
  have hwg : w.heap.size ≤ g2 := by have := hb1.size; omega
  have R2 := Lib.hid r2
  have R3 := Lib.hid r3
  clear hb hb1 hb2 hb3 r1 r2 r3 l1 l2
  go_loopw [8] (fun i wr => ∃ j : Nat, i = .int .i64 j ∧ j ≤ 64 ∧ Row wr g3 53 (u32s (pw b j)) ∧ Row wr g2 53 (u32s (List.replicate 64 0)) ∧ Below w.heap.size w wr) (fun i _ => 64 - (intOf i).toNat)
  case atStart => exact ⟨0, rfl, by omega, R3.out, R2.out, HB.out⟩
  case round =>
    clear R2 R3 HB
    obtain ⟨j, rfl, hj, r3, r2, hb⟩ := hrel
    have HB := Lib.hid hb
    have R2 := Lib.hid r2
    have R3 := Lib.hid r3
    clear r2 r3 hb
    by_cases hlt : j < 64
    · have hidx := idx_b b hb j hlt
      rw [← HB0.out] at hidx
      have hcell := R3.out.w32 (i := j / 4) (by rw [pw_len]; omega)
      obtain ⟨x, hx⟩ : ∃ x, (pw b j).getD (j / 4) 0 = x := ⟨_, rfl⟩
      obtain ⟨y, hy⟩ : ∃ y, b.getD j 0 = y := ⟨_, rfl⟩
      rw [hx] at hcell
      simp only [hy] at hidx
      have HX := Lib.hid hx
      have HY := Lib.hid hy
      clear hx hy
      go_wp2_with (first
        | (refine wpList_store_cell (v := .int .u32 (wv (x <<< 8 ||| y.toUInt32))) rfl rfl rfl rfl rfl R3.out u32_one (by rw [u32s_size, pw_len]; omega) ?_; intro w4 r4 hu4))
      refine ⟨⟨j + 1, by go_num, by omega, ?_, R2.out.upd hu4 (by omega), below_upd HB.out hu4 (by omega)⟩, by simp [intOf]; omega⟩
      rw [u32s_set, ← HX.out, ← HY.out] at r4
      rw [pw_succ b j (by omega) hlt]
      simpa [show j / 4 < (pw b j).length by rw [pw_len]; omega, show j < b.length by omega] using r4
    · obtain rfl : j = 64 := by omega
      go_wp2
      go_loopw [6] (fun i wr2 => ∃ j : Nat, i = .int .i64 (j + 16 : Nat) ∧ j ≤ 48 ∧ Row wr2 g3 53 (u32s (spr (pw b 64) j)) ∧ Row wr2 g2 53 (u32s (List.replicate 64 0)) ∧ Below w.heap.size w wr2) (fun i _ => 64 - (intOf i).toNat)
      case atStart => exact ⟨0, rfl, by omega, R3.out, R2.out, HB.out⟩
      case round =>
        rename_i wr2
        clear R2 R3 HB hj hlt
        obtain ⟨j, rfl, hj, r3, r2, hb⟩ := hrel
        have HB := Lib.hid hb
        have R2 := Lib.hid r2
        have R3 := Lib.hid r3
        clear r2 r3 hb
        by_cases hlt : j < 48
        · have hlt2 : j + 16 < 64 := by omega
          go_wp2
          obtain ⟨x0, hx0⟩ : ∃ x, (spr (pw b 64) j).getD j 0 = x := ⟨_, rfl⟩
          obtain ⟨x1, hx1⟩ : ∃ x, (spr (pw b 64) j).getD (j + 1) 0 = x := ⟨_, rfl⟩
          obtain ⟨x9, hx9⟩ : ∃ x, (spr (pw b 64) j).getD (j + 9) 0 = x := ⟨_, rfl⟩
          obtain ⟨x14, hx14⟩ : ∃ x, (spr (pw b 64) j).getD (j + 14) 0 = x := ⟨_, rfl⟩
          have hL : (spr (pw b 64) j).length = 64 := by rw [spr_len, pw_len]
          have HX0 := Lib.hid hx0
          have HX1 := Lib.hid hx1
          have HX9 := Lib.hid hx9
          have HX14 := Lib.hid hx14
          have HL := Lib.hid hL
          have hv0 := wrap_small (n := (j : Int)) (by omega) (by omega)
          have hz0 : (j : Int) < 64 := by omega
          have hv1 : IntKind.i64.wrap ((j : Int) + 16 - 15) = (j : Int) + 1 := by rw [wrap_small (by omega) (by omega)]; omega
          have ht1 : ((j : Int) + 1).toNat = j + 1 := by omega
          have hp1 : 0 ≤ (j : Int) + 1 := by omega
          have hz1 : (j : Int) + 1 < 64 := by omega
          have hv9 : IntKind.i64.wrap ((j : Int) + 16 - 7) = (j : Int) + 9 := by rw [wrap_small (by omega) (by omega)]; omega
          have ht9 : ((j : Int) + 9).toNat = j + 9 := by omega
          have hp9 : 0 ≤ (j : Int) + 9 := by omega
          have hz9 : (j : Int) + 9 < 64 := by omega
          have hv14 : IntKind.i64.wrap ((j : Int) + 16 - 2) = (j : Int) + 14 := by rw [wrap_small (by omega) (by omega)]; omega
          have ht14 : ((j : Int) + 14).toNat = j + 14 := by omega
          have hp14 : 0 ≤ (j : Int) + 14 := by omega
          have hz14 : (j : Int) + 14 < 64 := by omega
          clear hx0 hx1 hx9 hx14 hL
          try simp only [Act.put, List.setIfInBounds_toArray, List.set_cons_succ, List.set_cons_zero, Nat.reduceAdd, Nat.zero_add]
          refine wp_region_T 23 [(9, MG.val (.int .u32 (wv (sg0 x1)))), (20, MG.val (.int .u32 (wv (sg1 x14))))] (by kernel_rfl) (by kernel_rfl) ?_
          intro ops F w0 pl hops hpl hw0 hF
          have hw0' := hw0.out
          subst hw0'
          simp only [List.take_succ_cons, List.take_zero, List.drop_succ_cons, List.drop_zero] at hF ⊢
          repeat (first | (refine wpL_pure (by first | rfl | (rw [hops.out]; rfl)) (by rw [hpl.out]; rfl) ?_ (fun wq hE hK => ?_) ?_; rotate_left; (clear hE hK; go_simp; rfl); (simp only [Act.put, List.setIfInBounds_toArray, List.set_cons_succ, List.set_cons_zero, Nat.reduceAdd, Nat.zero_add])) | (refine wpL_skip (by first | rfl | (rw [hops.out]; rfl)) ?_; simp only [Act.put, List.setIfInBounds_toArray, List.set_cons_succ, List.set_cons_zero, Nat.reduceAdd, Nat.zero_add]))
          refine wpL_pure (by first | rfl | (rw [hops.out]; rfl)) (by rw [hpl.out]; rfl) ?_ (fun wq hE hK => ?_) ?_
          rotate_left
          · have hc := (R3.out.bel hE).w32 (i := j) (by rw [HL.out]; omega)
            rw [HX0.out] at hc
            clear hE hK
            go_simp
            rfl
          simp only [Act.put, List.setIfInBounds_toArray, List.set_cons_succ, List.set_cons_zero, Nat.reduceAdd, Nat.zero_add]
          repeat (first | (refine wpL_pure (by first | rfl | (rw [hops.out]; rfl)) (by rw [hpl.out]; rfl) ?_ (fun wq hE hK => ?_) ?_; rotate_left; (clear hE hK; go_simp; rfl); (simp only [Act.put, List.setIfInBounds_toArray, List.set_cons_succ, List.set_cons_zero, Nat.reduceAdd, Nat.zero_add])) | (refine wpL_skip (by first | rfl | (rw [hops.out]; rfl)) ?_; simp only [Act.put, List.setIfInBounds_toArray, List.set_cons_succ, List.set_cons_zero, Nat.reduceAdd, Nat.zero_add]))
          refine wpL_pure (by first | rfl | (rw [hops.out]; rfl)) (by rw [hpl.out]; rfl) ?_ (fun wq hE hK => ?_) ?_
          rotate_left
          · have hc := (R3.out.bel hE).w32 (i := j + 1) (by rw [HL.out]; omega)
            rw [HX1.out] at hc
            clear hE hK
            go_simp
            rfl
          simp only [Act.put, List.setIfInBounds_toArray, List.set_cons_succ, List.set_cons_zero, Nat.reduceAdd, Nat.zero_add]
          repeat (first | (refine wpL_pure (by first | rfl | (rw [hops.out]; rfl)) (by rw [hpl.out]; rfl) ?_ (fun wq hE hK => ?_) ?_; rotate_left; (clear hE hK; go_simp; rfl); (simp only [Act.put, List.setIfInBounds_toArray, List.set_cons_succ, List.set_cons_zero, Nat.reduceAdd, Nat.zero_add])) | (refine wpL_skip (by first | rfl | (rw [hops.out]; rfl)) ?_; simp only [Act.put, List.setIfInBounds_toArray, List.set_cons_succ, List.set_cons_zero, Nat.reduceAdd, Nat.zero_add]))
          refine wpL_val (u := .int .u32 (wv (sg0 x1))) (by first | rfl | (rw [hops.out]; rfl)) (by rw [hpl.out]; rfl) (fun wq hE hK => ?_) ?_
          · unfold StepOk
            clear hK
            go_simp
            refine (moved_calls x1 7 18 3 7 18 3 _ (by decide)).mono ?_
            rintro e w' ⟨rfl, hb⟩
            exact ⟨rfl, hb⟩
          simp only [Act.put, List.setIfInBounds_toArray, List.set_cons_succ, List.set_cons_zero, Nat.reduceAdd, Nat.zero_add]
          repeat (first | (refine wpL_pure (by first | rfl | (rw [hops.out]; rfl)) (by rw [hpl.out]; rfl) ?_ (fun wq hE hK => ?_) ?_; rotate_left; (clear hE hK; go_simp; rfl); (simp only [Act.put, List.setIfInBounds_toArray, List.set_cons_succ, List.set_cons_zero, Nat.reduceAdd, Nat.zero_add])) | (refine wpL_skip (by first | rfl | (rw [hops.out]; rfl)) ?_; simp only [Act.put, List.setIfInBounds_toArray, List.set_cons_succ, List.set_cons_zero, Nat.reduceAdd, Nat.zero_add]))
          refine wpL_pure (by first | rfl | (rw [hops.out]; rfl)) (by rw [hpl.out]; rfl) ?_ (fun wq hE hK => ?_) ?_
          rotate_left
          · have hc := (R3.out.bel hE).w32 (i := j + 9) (by rw [HL.out]; omega)
            rw [HX9.out] at hc
            clear hE hK
            go_simp
            rfl
          simp only [Act.put, List.setIfInBounds_toArray, List.set_cons_succ, List.set_cons_zero, Nat.reduceAdd, Nat.zero_add]
          repeat (first | (refine wpL_pure (by first | rfl | (rw [hops.out]; rfl)) (by rw [hpl.out]; rfl) ?_ (fun wq hE hK => ?_) ?_; rotate_left; (clear hE hK; go_simp; rfl); (simp only [Act.put, List.setIfInBounds_toArray, List.set_cons_succ, List.set_cons_zero, Nat.reduceAdd, Nat.zero_add])) | (refine wpL_skip (by first | rfl | (rw [hops.out]; rfl)) ?_; simp only [Act.put, List.setIfInBounds_toArray, List.set_cons_succ, List.set_cons_zero, Nat.reduceAdd, Nat.zero_add]))
          refine wpL_pure (by first | rfl | (rw [hops.out]; rfl)) (by rw [hpl.out]; rfl) ?_ (fun wq hE hK => ?_) ?_
          rotate_left
          · have hc := (R3.out.bel hE).w32 (i := j + 14) (by rw [HL.out]; omega)
            rw [HX14.out] at hc
            clear hE hK
            go_simp
            rfl
          simp only [Act.put, List.setIfInBounds_toArray, List.set_cons_succ, List.set_cons_zero, Nat.reduceAdd, Nat.zero_add]
          repeat (first | (refine wpL_pure (by first | rfl | (rw [hops.out]; rfl)) (by rw [hpl.out]; rfl) ?_ (fun wq hE hK => ?_) ?_; rotate_left; (clear hE hK; go_simp; rfl); (simp only [Act.put, List.setIfInBounds_toArray, List.set_cons_succ, List.set_cons_zero, Nat.reduceAdd, Nat.zero_add])) | (refine wpL_skip (by first | rfl | (rw [hops.out]; rfl)) ?_; simp only [Act.put, List.setIfInBounds_toArray, List.set_cons_succ, List.set_cons_zero, Nat.reduceAdd, Nat.zero_add]))
          refine wpL_val (u := .int .u32 (wv (sg1 x14))) (by first | rfl | (rw [hops.out]; rfl)) (by rw [hpl.out]; rfl) (fun wq hE hK => ?_) ?_
          · unfold StepOk
            clear hK
            go_simp
            refine (moved_calls x14 17 19 10 17 19 10 _ (by decide)).mono ?_
            rintro e w' ⟨rfl, hb⟩
            exact ⟨rfl, hb⟩
          simp only [Act.put, List.setIfInBounds_toArray, List.set_cons_succ, List.set_cons_zero, Nat.reduceAdd, Nat.zero_add]
          repeat (first | (refine wpL_pure (by first | rfl | (rw [hops.out]; rfl)) (by rw [hpl.out]; rfl) ?_ (fun wq hE hK => ?_) ?_; rotate_left; (clear hE hK; go_simp; rfl); (simp only [Act.put, List.setIfInBounds_toArray, List.set_cons_succ, List.set_cons_zero, Nat.reduceAdd, Nat.zero_add])) | (refine wpL_skip (by first | rfl | (rw [hops.out]; rfl)) ?_; simp only [Act.put, List.setIfInBounds_toArray, List.set_cons_succ, List.set_cons_zero, Nat.reduceAdd, Nat.zero_add]))
          refine wpL_nil fun w' hE hK => hF.out _ _ ?_
          clear hK
          have r3 := R3.out.bel hE
          refine wpList_store_cell (v := .int .u32 (wv (x0 + sg0 x1 + x9 + sg1 x14))) rfl rfl rfl rfl rfl r3 u32_one (by rw [u32s_size, HL.out]; omega) ?_
          intro w5 r5 hu5
          go_wp2
          refine ⟨⟨j + 1, by push_cast; omega, by omega, ?_, (R2.out.bel hE).upd hu5 (by omega), below_upd (below_bel HB.out hE HB.out.size) hu5 (by omega)⟩, by simp [intOf]; omega⟩
          rw [u32s_set, ← HX0.out, ← HX1.out, ← HX9.out, ← HX14.out, show ((j : Int) + 16).toNat = 16 + j by omega] at r5
          have e : wnext (spr (pw b 64) j) (16 + j) = (spr (pw b 64) j).getD j 0 + sg0 ((spr (pw b 64) j).getD (j + 1) 0) + (spr (pw b 64) j).getD (j + 9) 0 + sg1 ((spr (pw b 64) j).getD (j + 14) 0) := by
            unfold wnext
            rw [show 16 + j - 16 = j by omega, show 16 + j - 15 = j + 1 by omega, show 16 + j - 7 = j + 9 by omega, show 16 + j - 2 = j + 14 by omega]
          rw [spr, e]
          exact r5
        · obtain rfl : j = 48 := by omega
          have hsz : (Tryd.prog.info? 53).map (·.size) = some (u32s (spr (pw b 64) 48)).size := (size_of w64_info).trans (by rw [u32s_size, spr_len, pw_len])
          go_wp2_with (first
            | (refine wpList_load_arr rfl rfl rfl R3.out w64_und hsz ?_)
            | (refine wpList_store_arr rfl rfl rfl rfl R2.out hsz (by rw [u32s_size, u32s_size, spr_len, pw_len]; rfl) (u32s_one _) ?_; intro w5 r5 hu5))
          exact ret_arr rfl rfl r5 w64_und hsz ⟨rfl, below_upd HB.out hu5 hwg⟩
theorem first_calls (w : World) : Calls Tryd.prog 21 #[] w fun e w' => e = .returned (.agg (u32s firsts)) ∧ Below w.heap.size w w' := by
  have hz := Lib.hid (zero_of_info w8_info).1
  go_enter Tryd.func21, Tryd.ntmps21
  go_wp2_with (first
    | (refine wpList_alloc_arr rfl rfl hz.out ?_; intro g2 w2 hg2 r2 hb2)
    | (refine wpList_store_arr (cells := u32s firsts) rfl rfl rfl rfl r2 (size_of w8_info) rfl (u32s_one _) ?_; intro w3 r3 hu3))
  exact ret_arr rfl rfl r3 w8_und (size_of w8_info) ⟨rfl, below_upd hb2 hu3 hg2⟩
end
end Go.Proofs.YthdckgcalooipaaDoor
namespace Go.Proofs.YthdckgcalooipaaDoor
section
open Go.RowKit
set_option linter.unusedVariables false
set_option linter.unusedSimpArgs false
/-- The table of the sixty-four numbers, in memory. -/
def TabB (w : World) : Prop := 0 < w.heap.size ∧ ∀ j v, (u32s nums)[j]? = some v → w.cell? ⟨0, j, none⟩ = some v
theorem TabB.bel {w w' : World} (h : TabB w) (hb : Bel w w') : TabB w' := ⟨Nat.lt_of_lt_of_le h.1 hb.size, fun j v hv => (hb.cell (p := ⟨_, j, none⟩) h.1).trans (h.2 j v hv)⟩
theorem TabB.below {w w' : World} {B : Nat} (h : TabB w) (hb : Below B w w') (hB : w.heap.size ≤ B) : TabB w' := h.bel (hb.mono hB)
theorem TabB.upd {w w' : World} {g : Nat} (h : TabB w) (hu : Upd g w w') (hg : 0 ≠ g) : TabB w' := ⟨by rw [hu.size]; exact h.1, fun j v hv => by
  have := h.2 j v hv
  unfold World.cell? at this ⊢
  rw [hu.block _ hg]; exact this⟩
theorem wpList_load_tab {ops : Array Oper} {rest : List Oper} {o : Oper} {a : Act} {w : World} {Q : Exit → Act → World → Prop} (hgd : o.guard = none) (ho : o.op = .load 53 (.global 0)) (hT : TabB w)
    (h : wpList Tryd.prog ops Q rest (a.put o.dst (.agg (u32s nums))) w) : wpList Tryd.prog ops Q (o :: rest) a w := by
  refine wpList_plain hgd fun K hK => ?_
  have hl : (loadCells ⟨0, 0, none⟩ 64).run Tryd.prog w = .ok (u32s nums) w := by
    have := run_loadCells_list (P := Tryd.prog) w ⟨0, 0, none⟩ (u32s nums).toList (fun j v hv => by
      have hadd : (⟨0, 0, none⟩ : Addr).add j = ⟨0, j, none⟩ := by unfold Addr.add; split <;> simp_all
      rw [hadd]; exact hT.2 j v (by simpa using hv))
    have h64 : (u32s nums).toList.length = 64 := rfl
    rw [h64] at this
    simpa using this
  have hu := run_underlying w64_und w
  obtain ⟨i, hi⟩ : ∃ i, Tryd.prog.info? 53 = some i := by
    have := size_of w64_info
    cases hq : Tryd.prog.info? 53 with
    | none => simp [hq] at this
    | some i => exact ⟨i, rfl⟩
  have hs : i.size = 64 := by have := size_of w64_info; simpa [hi] using this
  unfold Oper.wp execOp
  simp [ho, Act.eval, Instr.loadAt, Instr.sureAddr, loadVar, isAgg, hu, sizeOf, typeInfo, hi, hs, hl, Sem.run_bind]
  exact hK _ _ h
theorem rounds_len (b : List UInt8) : (spread b).length = 64 := by unfold spread; rw [spr_len, pw_len]
theorem nums_len : nums.length = 64 := rfl
def acc (h v : List UInt32) (i : Nat) : List UInt32 := (List.range 8).map fun j => if j < i then h.getD j 0 + v.getD j 0 else h.getD j 0
theorem acc_len (h v : List UInt32) (i : Nat) : (acc h v i).length = 8 := by simp [acc]
theorem acc_zero (h v : List UInt32) (hh : h.length = 8) : acc h v 0 = h := by
  apply List.ext_getElem
  · simp [acc, hh]
  · intro j h1 h2; simp [acc, List.getD_eq_getElem?_getD, h2]
theorem acc_get (h v : List UInt32) (i : Nat) (hi : i < 8) : (acc h v i).getD i 0 = h.getD i 0 := by simp [acc, List.getD_eq_getElem?_getD, hi]
theorem acc_succ (h v : List UInt32) (i : Nat) (hi : i < 8) : acc h v (i + 1) = (acc h v i).set i (h.getD i 0 + v.getD i 0) := by
  apply List.ext_getElem
  · simp [acc]
  · intro j h1 h2
    rw [List.getElem_set]
    simp only [acc, List.getElem_map, List.getElem_range]
    by_cases hj : i = j
    · subst hj; simp
    · rw [if_neg hj]
      by_cases hlt : j < i
      · rw [if_pos (by omega), if_pos hlt]
      · rw [if_neg (by omega), if_neg hlt]
theorem acc_eight (h v : List UInt32) (hh : h.length = 8) (hv : v.length = 8) : acc h v 8 = List.zipWith (· + ·) h v := by
  apply List.ext_getElem
  · simp [acc, hh, hv]
  · intro j h1 h2
    rw [List.length_zipWith] at h2
    have hj : j < 8 := by rw [acc_len] at h1; exact h1
    simp [acc, List.getD_eq_getElem?_getD, hj, show j < h.length by omega, show j < v.length by omega]
theorem idx_n (j : Nat) (h : j < 64) (w : World) : (Instr.index 53 (.agg (u32s nums)) (.int .i64 (j : Int))).run Tryd.prog w = .ok (.int .u32 (wv (nums.getD j 0))) w :=
  run_index_arr w64_und und_u32 u32_one (by omega) (by omega) (u32s_get nums _ (by rw [nums_len]; omega))
theorem idx_8 (l : List UInt32) (hl : l.length = 8) (j : Nat) (h : j < 8) (w : World) : (Instr.index 23 (.agg (u32s l)) (.int .i64 (j : Int))).run Tryd.prog w = .ok (.int .u32 (wv (l.getD j 0))) w :=
  run_index_arr w8_und und_u32 u32_one (by omega) (by omega) (u32s_get l _ (by omega))
set_option maxHeartbeats 4000000 in
set_option maxRecDepth 100000 in
theorem mix_calls (h : List UInt32) (b : List UInt8) (hh : h.length = 8) (hb : b.length = 64) (w : World) (hT : TabB w) :
    Calls Tryd.prog 22 #[.agg (u32s h), .agg (b8s b)] w fun e w' => e = .returned (.agg (u32s (mix h b))) ∧ Below w.heap.size w w' := by
  have hz := Lib.hid (zero_of_info w64_info).1
  have hz8 := Lib.hid (zero_of_info w8_info).1
  obtain ⟨Z, hZ⟩ : ∃ Z, Z = u32s (List.replicate 64 0) := ⟨_, rfl⟩
  rw [← hZ] at hz
  obtain ⟨Z8, hZ8⟩ : ∃ Z, Z = u32s (List.replicate 8 0) := ⟨_, rfl⟩
  rw [← hZ8] at hz8
  obtain ⟨B, hB⟩ : ∃ B, B = b8s b := ⟨_, rfl⟩
  have hBs : B.size = 64 := by rw [hB, b8s_size, hb]
  obtain ⟨H, hH⟩ : ∃ H, H = u32s h := ⟨_, rfl⟩
  have hHs : H.size = 8 := by rw [hH, u32s_size, hh]
  rw [← hB, ← hH]
  have HBS := Lib.hid hBs
  have HHS := Lib.hid hHs
  have HB0 := Lib.hid hB
  have HH0 := Lib.hid hH
  have HZ := Lib.hid hZ
  have HZ8 := Lib.hid hZ8
  have HT := Lib.hid hT
  obtain ⟨N, hN⟩ : ∃ N, N = u32s nums := ⟨_, rfl⟩
  have HN := Lib.hid hN
  clear hBs hB hZ hZ8 hH hHs hT hN
  go_enter Tryd.func22, Tryd.ntmps22
  go_wp2_with (first
    | (replace r2 := r2; refine wpList_box_arr rfl rfl rfl ?_; intro g3 w3 hg3 r3 hb3; replace r2 := r2.bel hb3; have l3 := r3.lt)
    | (refine wpList_box_arr rfl rfl rfl ?_; intro g2 w2 hg2 r2 hb2; have l2 := r2.lt)
    | (refine wpList_alloc_arr rfl rfl hz8.out ?_; intro g4 w4 hg4 r4 hb4; replace r2 := r2.bel hb4; replace r3 := r3.bel hb4; have l4 := r4.lt))
  have hb1 := Bel.trans _ _ _ (Bel.trans _ _ _ hb2 hb3) hb4
  have HB := Lib.hid hb1
  have hg23 : g2 < g3 := by omega
  have hg34 : g3 < g4 := by omega
  have hwg : w.heap.size ≤ g2 := hg2
  rw [HH0.out] at r2
  have R2 := Lib.hid r2
  have R3 := Lib.hid r3
  have R4 := Lib.hid r4
  clear r2 r3 r4 hb2 hb3 hb4 hb1 l2 l3 l4
  obtain ⟨x0, hx0⟩ : ∃ x, h.getD 0 0 = x := ⟨_, rfl⟩
  obtain ⟨x1, hx1⟩ : ∃ x, h.getD 1 0 = x := ⟨_, rfl⟩
  obtain ⟨x2, hx2⟩ : ∃ x, h.getD 2 0 = x := ⟨_, rfl⟩
  obtain ⟨x3, hx3⟩ : ∃ x, h.getD 3 0 = x := ⟨_, rfl⟩
  obtain ⟨x4, hx4⟩ : ∃ x, h.getD 4 0 = x := ⟨_, rfl⟩
  obtain ⟨x5, hx5⟩ : ∃ x, h.getD 5 0 = x := ⟨_, rfl⟩
  obtain ⟨x6, hx6⟩ : ∃ x, h.getD 6 0 = x := ⟨_, rfl⟩
  obtain ⟨x7, hx7⟩ : ∃ x, h.getD 7 0 = x := ⟨_, rfl⟩
  have hst : stOf h = ⟨x0, x1, x2, x3, x4, x5, x6, x7⟩ := by unfold stOf; rw [hx0, hx1, hx2, hx3, hx4, hx5, hx6, hx7]
  have HX0 := Lib.hid hx0
  have HX1 := Lib.hid hx1
  have HX2 := Lib.hid hx2
  have HX3 := Lib.hid hx3
  have HX4 := Lib.hid hx4
  have HX5 := Lib.hid hx5
  have HX6 := Lib.hid hx6
  have HX7 := Lib.hid hx7
  clear hx0 hx1 hx2 hx3 hx4 hx5 hx6 hx7
  have HST := Lib.hid hst
  clear hst
  try simp only [Act.put, List.setIfInBounds_toArray, List.set_cons_succ, List.set_cons_zero, Nat.reduceAdd, Nat.zero_add]
  refine wp_region_A [] (by kernel_rfl) (by kernel_rfl) ?_
  intro ops F w0 pl hops hpl hw0 hF
  have hw0' := hw0.out
  subst hw0'
  repeat (first | (refine wpL_pure (by first | rfl | (rw [hops.out]; rfl)) (by rw [hpl.out]; rfl) ?_ (fun wq hE hK => ?_) ?_; rotate_left; (clear hE hK; go_simp; rfl); (simp only [Act.put, List.setIfInBounds_toArray, List.set_cons_succ, List.set_cons_zero, Nat.reduceAdd, Nat.zero_add])) | (refine wpL_skip (by first | rfl | (rw [hops.out]; rfl)) ?_; simp only [Act.put, List.setIfInBounds_toArray, List.set_cons_succ, List.set_cons_zero, Nat.reduceAdd, Nat.zero_add]))
  refine wpL_pure (by first | rfl | (rw [hops.out]; rfl)) (by rw [hpl.out]; rfl) ?_ (fun wq hE hK => ?_) ?_
  rotate_left
  · have hc := (R2.out.bel hE).w32 (i := 0) (by rw [hh]; omega)
    rw [HX0.out] at hc
    clear hE hK
    go_simp
    rfl
  simp only [Act.put, List.setIfInBounds_toArray, List.set_cons_succ, List.set_cons_zero, Nat.reduceAdd, Nat.zero_add]
  repeat (first | (refine wpL_pure (by first | rfl | (rw [hops.out]; rfl)) (by rw [hpl.out]; rfl) ?_ (fun wq hE hK => ?_) ?_; rotate_left; (clear hE hK; go_simp; rfl); (simp only [Act.put, List.setIfInBounds_toArray, List.set_cons_succ, List.set_cons_zero, Nat.reduceAdd, Nat.zero_add])) | (refine wpL_skip (by first | rfl | (rw [hops.out]; rfl)) ?_; simp only [Act.put, List.setIfInBounds_toArray, List.set_cons_succ, List.set_cons_zero, Nat.reduceAdd, Nat.zero_add]))
  refine wpL_pure (by first | rfl | (rw [hops.out]; rfl)) (by rw [hpl.out]; rfl) ?_ (fun wq hE hK => ?_) ?_
  rotate_left
  · have hc := (R2.out.bel hE).w32 (i := 1) (by rw [hh]; omega)
    rw [HX1.out] at hc
    clear hE hK
    go_simp
    rfl
  simp only [Act.put, List.setIfInBounds_toArray, List.set_cons_succ, List.set_cons_zero, Nat.reduceAdd, Nat.zero_add]
  repeat (first | (refine wpL_pure (by first | rfl | (rw [hops.out]; rfl)) (by rw [hpl.out]; rfl) ?_ (fun wq hE hK => ?_) ?_; rotate_left; (clear hE hK; go_simp; rfl); (simp only [Act.put, List.setIfInBounds_toArray, List.set_cons_succ, List.set_cons_zero, Nat.reduceAdd, Nat.zero_add])) | (refine wpL_skip (by first | rfl | (rw [hops.out]; rfl)) ?_; simp only [Act.put, List.setIfInBounds_toArray, List.set_cons_succ, List.set_cons_zero, Nat.reduceAdd, Nat.zero_add]))
  refine wpL_pure (by first | rfl | (rw [hops.out]; rfl)) (by rw [hpl.out]; rfl) ?_ (fun wq hE hK => ?_) ?_
  rotate_left
  · have hc := (R2.out.bel hE).w32 (i := 2) (by rw [hh]; omega)
    rw [HX2.out] at hc
    clear hE hK
    go_simp
    rfl
  simp only [Act.put, List.setIfInBounds_toArray, List.set_cons_succ, List.set_cons_zero, Nat.reduceAdd, Nat.zero_add]
  repeat (first | (refine wpL_pure (by first | rfl | (rw [hops.out]; rfl)) (by rw [hpl.out]; rfl) ?_ (fun wq hE hK => ?_) ?_; rotate_left; (clear hE hK; go_simp; rfl); (simp only [Act.put, List.setIfInBounds_toArray, List.set_cons_succ, List.set_cons_zero, Nat.reduceAdd, Nat.zero_add])) | (refine wpL_skip (by first | rfl | (rw [hops.out]; rfl)) ?_; simp only [Act.put, List.setIfInBounds_toArray, List.set_cons_succ, List.set_cons_zero, Nat.reduceAdd, Nat.zero_add]))
  refine wpL_pure (by first | rfl | (rw [hops.out]; rfl)) (by rw [hpl.out]; rfl) ?_ (fun wq hE hK => ?_) ?_
  rotate_left
  · have hc := (R2.out.bel hE).w32 (i := 3) (by rw [hh]; omega)
    rw [HX3.out] at hc
    clear hE hK
    go_simp
    rfl
  simp only [Act.put, List.setIfInBounds_toArray, List.set_cons_succ, List.set_cons_zero, Nat.reduceAdd, Nat.zero_add]
  repeat (first | (refine wpL_pure (by first | rfl | (rw [hops.out]; rfl)) (by rw [hpl.out]; rfl) ?_ (fun wq hE hK => ?_) ?_; rotate_left; (clear hE hK; go_simp; rfl); (simp only [Act.put, List.setIfInBounds_toArray, List.set_cons_succ, List.set_cons_zero, Nat.reduceAdd, Nat.zero_add])) | (refine wpL_skip (by first | rfl | (rw [hops.out]; rfl)) ?_; simp only [Act.put, List.setIfInBounds_toArray, List.set_cons_succ, List.set_cons_zero, Nat.reduceAdd, Nat.zero_add]))
  refine wpL_pure (by first | rfl | (rw [hops.out]; rfl)) (by rw [hpl.out]; rfl) ?_ (fun wq hE hK => ?_) ?_
  rotate_left
  · have hc := (R2.out.bel hE).w32 (i := 4) (by rw [hh]; omega)
    rw [HX4.out] at hc
    clear hE hK
    go_simp
    rfl
  simp only [Act.put, List.setIfInBounds_toArray, List.set_cons_succ, List.set_cons_zero, Nat.reduceAdd, Nat.zero_add]
  repeat (first | (refine wpL_pure (by first | rfl | (rw [hops.out]; rfl)) (by rw [hpl.out]; rfl) ?_ (fun wq hE hK => ?_) ?_; rotate_left; (clear hE hK; go_simp; rfl); (simp only [Act.put, List.setIfInBounds_toArray, List.set_cons_succ, List.set_cons_zero, Nat.reduceAdd, Nat.zero_add])) | (refine wpL_skip (by first | rfl | (rw [hops.out]; rfl)) ?_; simp only [Act.put, List.setIfInBounds_toArray, List.set_cons_succ, List.set_cons_zero, Nat.reduceAdd, Nat.zero_add]))
  refine wpL_pure (by first | rfl | (rw [hops.out]; rfl)) (by rw [hpl.out]; rfl) ?_ (fun wq hE hK => ?_) ?_
  rotate_left
  · have hc := (R2.out.bel hE).w32 (i := 5) (by rw [hh]; omega)
    rw [HX5.out] at hc
    clear hE hK
    go_simp
    rfl
  simp only [Act.put, List.setIfInBounds_toArray, List.set_cons_succ, List.set_cons_zero, Nat.reduceAdd, Nat.zero_add]
  repeat (first | (refine wpL_pure (by first | rfl | (rw [hops.out]; rfl)) (by rw [hpl.out]; rfl) ?_ (fun wq hE hK => ?_) ?_; rotate_left; (clear hE hK; go_simp; rfl); (simp only [Act.put, List.setIfInBounds_toArray, List.set_cons_succ, List.set_cons_zero, Nat.reduceAdd, Nat.zero_add])) | (refine wpL_skip (by first | rfl | (rw [hops.out]; rfl)) ?_; simp only [Act.put, List.setIfInBounds_toArray, List.set_cons_succ, List.set_cons_zero, Nat.reduceAdd, Nat.zero_add]))
  refine wpL_pure (by first | rfl | (rw [hops.out]; rfl)) (by rw [hpl.out]; rfl) ?_ (fun wq hE hK => ?_) ?_
  rotate_left
  · have hc := (R2.out.bel hE).w32 (i := 6) (by rw [hh]; omega)
    rw [HX6.out] at hc
    clear hE hK
    go_simp
    rfl
  simp only [Act.put, List.setIfInBounds_toArray, List.set_cons_succ, List.set_cons_zero, Nat.reduceAdd, Nat.zero_add]
  repeat (first | (refine wpL_pure (by first | rfl | (rw [hops.out]; rfl)) (by rw [hpl.out]; rfl) ?_ (fun wq hE hK => ?_) ?_; rotate_left; (clear hE hK; go_simp; rfl); (simp only [Act.put, List.setIfInBounds_toArray, List.set_cons_succ, List.set_cons_zero, Nat.reduceAdd, Nat.zero_add])) | (refine wpL_skip (by first | rfl | (rw [hops.out]; rfl)) ?_; simp only [Act.put, List.setIfInBounds_toArray, List.set_cons_succ, List.set_cons_zero, Nat.reduceAdd, Nat.zero_add]))
  refine wpL_pure (by first | rfl | (rw [hops.out]; rfl)) (by rw [hpl.out]; rfl) ?_ (fun wq hE hK => ?_) ?_
  rotate_left
  · have hc := (R2.out.bel hE).w32 (i := 7) (by rw [hh]; omega)
    rw [HX7.out] at hc
    clear hE hK
    go_simp
    rfl
  simp only [Act.put, List.setIfInBounds_toArray, List.set_cons_succ, List.set_cons_zero, Nat.reduceAdd, Nat.zero_add]
  repeat (first | (refine wpL_pure (by first | rfl | (rw [hops.out]; rfl)) (by rw [hpl.out]; rfl) ?_ (fun wq hE hK => ?_) ?_; rotate_left; (clear hE hK; go_simp; rfl); (simp only [Act.put, List.setIfInBounds_toArray, List.set_cons_succ, List.set_cons_zero, Nat.reduceAdd, Nat.zero_add])) | (refine wpL_skip (by first | rfl | (rw [hops.out]; rfl)) ?_; simp only [Act.put, List.setIfInBounds_toArray, List.set_cons_succ, List.set_cons_zero, Nat.reduceAdd, Nat.zero_add]))
  refine wpL_nil fun w' hE hK => hF.out _ _ ?_
  clear hK
  have HBE := Lib.hid hE
  have hsz : (Tryd.prog.info? 53).map (·.size) = some (u32s (spread b)).size := (size_of w64_info).trans (by rw [u32s_size, rounds_len])
  go_wp2_with (first
    | (refine wpList_load_arr rfl rfl rfl (R3.out.bel HBE.out) b64_und ((size_of b64_info).trans (by rw [HBS.out])) ?_)
    | (go_at_call 30; rw [HB0.out]; refine (spread_calls b hb _).mono ?_; rintro e w5 ⟨rfl, hb5⟩; have HB5 := Lib.hid hb5; clear hb5)
    | (refine wpList_alloc_arr rfl rfl hz.out ?_; intro g5 w6 hg5 r5 hb6; rw [HZ.out] at r5; have l5 := r5.lt; have R5 := Lib.hid r5; have HB6 := Lib.hid hb6; clear r5 hb6)
    | (refine wpList_store_arr rfl rfl rfl rfl R5.out hsz (by rw [u32s_size, u32s_size, rounds_len]; rfl) (u32s_one _) ?_; intro w7 r5 hu7; have R7 := Lib.hid r5; have HU7 := Lib.hid hu7; clear r5 hu7)
    | (refine wpList_load_tab rfl rfl (((HT.out.bel (Bel.trans _ _ _ (Bel.trans _ _ _ HB.out HBE.out) (Bel.trans _ _ _ HB5.out HB6.out))).upd HU7.out (by have := HT.out.1; have := HB.out.size; have := HBE.out.size; have := HB5.out.size; omega))) ?_; rw [← HN.out]))
  have hw06 := Bel.trans _ _ _ (Bel.trans _ _ _ HB.out HBE.out) (Bel.trans _ _ _ HB5.out HB6.out)
  have hw5 := (Bel.trans _ _ _ (Bel.trans _ _ _ HB.out HBE.out) HB5.out).size
  have hq0 := (Bel.trans _ _ _ HBE.out HB5.out).size
  have q2 := R2.out.lt
  have q4 := R4.out.lt
  have hb7 := below_upd hw06 HU7.out (by omega)
  have r2 := ((((R2.out.bel HBE.out).bel HB5.out).bel HB6.out).upd HU7.out (by omega))
  have r4 := ((((R4.out.bel HBE.out).bel HB5.out).bel HB6.out).upd HU7.out (by omega))
  have hg45 : g4 < g5 := by omega
  have R2 := Lib.hid r2
  have R4 := Lib.hid r4
  have HB7 := Lib.hid hb7
  clear hw06 hw5 hq0 q2 q4 hb7 r2 r4 HU7 HB6 HB5 HBE HB R5 R3 hE
  go_loopw [5, 6, 7, 8, 9, 10, 11, 12, 39] (fun a b' c d e f g z i wr => ∃ (t : Nat) (s : BSt), i = .int .i64 t ∧ t ≤ 64 ∧ rounds b (stOf h) t = s ∧ a = .int .u32 (wv s.a) ∧ b' = .int .u32 (wv s.b) ∧ c = .int .u32 (wv s.c) ∧ d = .int .u32 (wv s.d) ∧ e = .int .u32 (wv s.e) ∧ f = .int .u32 (wv s.f) ∧ g = .int .u32 (wv s.g) ∧ z = .int .u32 (wv s.z) ∧ Bel w7 wr) (fun _ _ _ _ _ _ _ _ i _ => 64 - (intOf i).toNat)
  case atStart => exact ⟨0, ⟨x0, x1, x2, x3, x4, x5, x6, x7⟩, rfl, by omega, HST.out, rfl, rfl, rfl, rfl, rfl, rfl, rfl, rfl, Below.refl _ _⟩
  case round =>
    obtain ⟨t, s, rfl, ht, hs, rfl, rfl, rfl, rfl, rfl, rfl, rfl, rfl, hbr⟩ := hrel
    obtain ⟨a1, b1, c1, d1, e1, f1, g1, z1⟩ := s
    simp only at *
    have HS := Lib.hid hs
    have HBR := Lib.hid hbr
    clear hs hbr
    by_cases hlt : t < 64
    · have hidx := idx_n t hlt
      rw [← HN.out] at hidx
      obtain ⟨n, hn⟩ : ∃ n, nums.getD t 0 = n := ⟨_, rfl⟩
      obtain ⟨x, hx⟩ : ∃ n, (spread b).getD t 0 = n := ⟨_, rfl⟩
      simp only [hn] at hidx
      have HNN := Lib.hid hn
      have HX := Lib.hid hx
      have hlt' : (t : Int) < 64 := by omega
      clear hn hx
      go_wp2
      try simp only [Act.put, List.setIfInBounds_toArray, List.set_cons_succ, List.set_cons_zero, Nat.reduceAdd, Nat.zero_add]
      refine wp_region_A [(2, MG.val (.int .u32 (wv (bg1 e1))))] (by kernel_rfl) (by kernel_rfl) ?_
      intro ops F w0 pl hops hpl hw0 hF
      have hw0' := hw0.out
      subst hw0'
      repeat (first | (refine wpL_pure (by first | rfl | (rw [hops.out]; rfl)) (by rw [hpl.out]; rfl) ?_ (fun wq hE hK => ?_) ?_; rotate_left; (clear hE hK; go_simp; rfl); (simp only [Act.put, List.setIfInBounds_toArray, List.set_cons_succ, List.set_cons_zero, Nat.reduceAdd, Nat.zero_add])) | (refine wpL_skip (by first | rfl | (rw [hops.out]; rfl)) ?_; simp only [Act.put, List.setIfInBounds_toArray, List.set_cons_succ, List.set_cons_zero, Nat.reduceAdd, Nat.zero_add]))
      refine wpL_val (u := .int .u32 (wv (bg1 e1))) (by first | rfl | (rw [hops.out]; rfl)) (by rw [hpl.out]; rfl) (fun wq hE hK => ?_) ?_
      · unfold StepOk
        clear hK
        go_simp
        refine (turned_calls e1 6 11 25 6 11 25 _ (by decide)).mono ?_
        rintro e w' ⟨rfl, rfl⟩
        exact ⟨rfl, Below.refl _ _⟩
      simp only [Act.put, List.setIfInBounds_toArray, List.set_cons_succ, List.set_cons_zero, Nat.reduceAdd, Nat.zero_add]
      repeat (first | (refine wpL_pure (by first | rfl | (rw [hops.out]; rfl)) (by rw [hpl.out]; rfl) ?_ (fun wq hE hK => ?_) ?_; rotate_left; (clear hE hK; go_simp; rfl); (simp only [Act.put, List.setIfInBounds_toArray, List.set_cons_succ, List.set_cons_zero, Nat.reduceAdd, Nat.zero_add])) | (refine wpL_skip (by first | rfl | (rw [hops.out]; rfl)) ?_; simp only [Act.put, List.setIfInBounds_toArray, List.set_cons_succ, List.set_cons_zero, Nat.reduceAdd, Nat.zero_add]))
      refine wpL_pure (by first | rfl | (rw [hops.out]; rfl)) (by rw [hpl.out]; rfl) ?_ (fun wq hE hK => ?_) ?_
      rotate_left
      · have hc := (R7.out.bel (Bel.trans _ _ _ HBR.out hE)).w32 (i := t) (by rw [rounds_len]; omega)
        rw [HX.out] at hc
        clear hE hK
        go_simp
        rfl
      simp only [Act.put, List.setIfInBounds_toArray, List.set_cons_succ, List.set_cons_zero, Nat.reduceAdd, Nat.zero_add]
      repeat (first | (refine wpL_pure (by first | rfl | (rw [hops.out]; rfl)) (by rw [hpl.out]; rfl) ?_ (fun wq hE hK => ?_) ?_; rotate_left; (clear hE hK; go_simp; rfl); (simp only [Act.put, List.setIfInBounds_toArray, List.set_cons_succ, List.set_cons_zero, Nat.reduceAdd, Nat.zero_add])) | (refine wpL_skip (by first | rfl | (rw [hops.out]; rfl)) ?_; simp only [Act.put, List.setIfInBounds_toArray, List.set_cons_succ, List.set_cons_zero, Nat.reduceAdd, Nat.zero_add]))
      refine wpL_nil fun w' hE hK => hF.out _ _ ?_
      clear hK
      have HE := Lib.hid hE
      go_wp2_with (first
        | (go_at_call 31; refine (turned_calls a1 2 13 22 2 13 22 _ (by decide)).mono ?_; rintro e w' ⟨rfl, rfl⟩))
      refine ⟨⟨t + 1, rnd ⟨a1, b1, c1, d1, e1, f1, g1, z1⟩ n x, by go_num, by omega, by rw [rounds, HS.out, HNN.out, HX.out], ?_, rfl, rfl, rfl, ?_, rfl, rfl, rfl, Bel.trans _ _ _ HBR.out HE.out⟩, by simp [intOf]; omega⟩
      · simp only [wv_add]; rfl
      · simp only [wv_add]; rfl
    · obtain rfl : t = 64 := by omega
      have r2 := R2.out.bel HBR.out
      have r4 := R4.out.bel HBR.out
      have hb7 := below_bel HB7.out HBR.out HB7.out.size
      have R2 := Lib.hid r2
      have R4 := Lib.hid r4
      have HB := Lib.hid hb7
      clear r2 r4 hb7 HBR
      have hi8 := idx_8 [a1, b1, c1, d1, e1, f1, g1, z1] rfl
      have HI8 := Lib.hid hi8
      clear hi8
      have HSL := Lib.hid (show (rounds b (stOf h) 64).list = [a1, b1, c1, d1, e1, f1, g1, z1] by rw [HS.out]; rfl)
      generalize hLL : [a1, b1, c1, d1, e1, f1, g1, z1] = L at *
      have hL8 : L.length = 8 := by rw [← hLL]; rfl
      have hU : u32s L = #[.int .u32 (wv a1), .int .u32 (wv b1), .int .u32 (wv c1), .int .u32 (wv d1), .int .u32 (wv e1), .int .u32 (wv f1), .int .u32 (wv g1), .int .u32 (wv z1)] := by rw [← hLL]; rfl
      rw [hU] at HI8
      clear hLL hU
      go_wp2
      simp only [show ((64 : Nat) : Int) = 64 from rfl]
      go_loopw [97] (fun i wr2 => ∃ t : Nat, i = .int .i64 t ∧ t ≤ 8 ∧ Row wr2 g2 23 (u32s (acc h L t)) ∧ Row wr2 g4 23 Z8 ∧ Below w.heap.size w wr2) (fun i _ => 8 - (intOf i).toNat)
      case atStart => exact ⟨0, rfl, by omega, by rw [acc_zero h L hh]; exact R2.out, R4.out, HB.out⟩
      case round =>
        clear R2 R4 HB
        obtain ⟨t, rfl, ht, r2, r4, hb⟩ := hrel
        have R2 := Lib.hid r2
        have R4 := Lib.hid r4
        have HB := Lib.hid hb
        clear r2 r4 hb
        by_cases hlt : t < 8
        · have hidx := HI8.out t hlt
          have hlt' : (t : Int) < 8 := by omega
          have hc := R2.out.w32 (i := t) (by rw [acc_len]; omega)
          rw [acc_get h L t hlt] at hc
          obtain ⟨n, hn⟩ : ∃ n, L.getD t 0 = n := ⟨_, rfl⟩
          obtain ⟨x, hx⟩ : ∃ n, h.getD t 0 = n := ⟨_, rfl⟩
          simp only [hn] at hidx
          rw [hx] at hc
          have HNN := Lib.hid hn
          have HX := Lib.hid hx
          clear hn hx
          go_wp2_with (first
            | (refine wpList_store_cell (v := .int .u32 (wv (x + n))) rfl rfl rfl rfl rfl R2.out u32_one (by rw [u32s_size, acc_len]; omega) ?_; intro w8 r8 hu8))
          go_roundw
          case rel =>
            refine ⟨t + 1, by go_num, by omega, ?_, R4.out.upd hu8 (by omega), below_upd HB.out hu8 (by omega)⟩
            rw [acc_succ h L t hlt, ← u32s_set, HX.out, HNN.out]
            simpa using r8
          case measure => simp [intOf]; omega
        · obtain rfl : t = 8 := by omega
          have hsz8 : (Tryd.prog.info? 23).map (·.size) = some (u32s (acc h L 8)).size := (size_of w8_info).trans (by rw [u32s_size, acc_len])
          go_wp2_with (first
            | (refine wpList_load_arr rfl rfl rfl R2.out w8_und hsz8 ?_)
            | (refine wpList_store_arr rfl rfl rfl rfl R4.out hsz8 (by rw [HZ8.out, u32s_size, u32s_size, acc_len]; rfl) (u32s_one _) ?_; intro w9 r9 hu9))
          refine ret_arr rfl rfl r9 w8_und hsz8 ⟨?_, below_upd HB.out hu9 (by omega)⟩
          rw [acc_eight h L hh hL8, ← HSL.out]
          rfl
end
end Go.Proofs.YthdckgcalooipaaDoor
namespace Go.Proofs.YthdckgcalooipaaDoor
section
open Go.RowKit
set_option linter.unusedVariables false
set_option linter.unusedSimpArgs false
def rkn (k : Int) : UInt32 := UInt32.ofNat k.toNat
theorem rturned_calls (x : UInt32) (k : Int) (w : World) (h : k ∈ [(7 : Int), 18, 17, 19, 6, 11, 25, 2, 13, 22]) :
    Calls Tryd.prog 35 #[.int .u32 (wv x), .int .i64 k] w fun e w' => e = .returned (.int .u32 (wv (rotr x (rkn k)))) ∧ w = w' := by
  simp only [List.mem_cons, List.not_mem_nil, or_false] at h
  rcases h with rfl | rfl | rfl | rfl | rfl | rfl | rfl | rfl | rfl | rfl
  all_goals
    go_enter Tryd.func35, Tryd.ntmps35
    go_wp2
    go_ret
    exact ⟨rfl, rfl⟩
theorem rmoved_calls (x : UInt32) (k : Int) (w : World) (h : k ∈ [(3 : Int), 10]) :
    Calls Tryd.prog 38 #[.int .u32 (wv x), .int .i64 k] w fun e w' => e = .returned (.int .u32 (wv (x >>> rkn k))) ∧ w = w' := by
  simp only [List.mem_cons, List.not_mem_nil, or_false] at h
  rcases h with rfl | rfl
  all_goals
    go_enter Tryd.func38, Tryd.ntmps38
    go_wp2
    go_ret
    exact ⟨rfl, rfl⟩
theorem rfirst_calls (w : World) : Calls Tryd.prog 23 #[] w fun e w' => e = .returned (.agg (u32s firsts)) ∧ Below w.heap.size w w' := by
  have hz := Lib.hid (zero_of_info w8_info).1
  go_enter Tryd.func23, Tryd.ntmps23
  go_wp2_with (first
    | (refine wpList_alloc_arr rfl rfl hz.out ?_; intro g2 w2 hg2 r2 hb2)
    | (refine wpList_store_arr (cells := u32s firsts) rfl rfl rfl rfl r2 (size_of w8_info) rfl (u32s_one _) ?_; intro w3 r3 hu3))
  exact ret_arr rfl rfl r3 w8_und (size_of w8_info) ⟨rfl, below_upd hb2 hu3 hg2⟩
def wd (b : List UInt8) (j : Nat) : UInt32 := (b.getD (4 * j) 0).toUInt32 <<< 24 + (b.getD (4 * j + 1) 0).toUInt32 <<< 16 + (b.getD (4 * j + 2) 0).toUInt32 <<< 8 + (b.getD (4 * j + 3) 0).toUInt32
def pw2 (b : List UInt8) (t : Nat) : List UInt32 := (List.range 64).map fun j => if j < t then wd b j else 0
theorem pw2_len (b : List UInt8) (t : Nat) : (pw2 b t).length = 64 := by simp [pw2]
theorem pw2_zero (b : List UInt8) : pw2 b 0 = List.replicate 64 0 := by unfold pw2; simp; rfl
theorem pw2_succ (b : List UInt8) (t : Nat) : pw2 b (t + 1) = (pw2 b t).set t (wd b t) := by
  apply List.ext_getElem
  · simp [pw2]
  · intro j h1 h2
    rw [List.getElem_set]
    simp only [pw2, List.getElem_map, List.getElem_range]
    by_cases hj : t = j
    · subst hj; simp
    · rw [if_neg hj]
      by_cases hlt : j < t
      · rw [if_pos (by omega), if_pos hlt]
      · rw [if_neg (by omega), if_neg hlt]
theorem u32_or_add (a b : UInt32) (n : Nat) (ha : a.toNat % 2 ^ n = 0) (hb : b.toNat < 2 ^ n) : a ||| b = a + b := by
  apply UInt32.toNat_inj.1
  have h1 : a.toNat = a.toNat / 2 ^ n * 2 ^ n := by have := Nat.div_add_mod a.toNat (2 ^ n); rw [ha] at this; rw [Nat.mul_comm]; omega
  have h2 := Nat.two_pow_add_eq_or_of_lt hb (a.toNat / 2 ^ n)
  rw [UInt32.toNat_or, UInt32.toNat_add]
  rw [Nat.mul_comm] at h1
  rw [h1, ← h2, ← h1]
  have := (a ||| b).toNat_lt
  rw [UInt32.toNat_or, h1, ← h2, ← h1] at this
  omega
theorem be4 (p q r s : UInt8) : beU [p, q, r, s] = p.toUInt32 <<< 24 + q.toUInt32 <<< 16 + r.toUInt32 <<< 8 + s.toUInt32 := by
  have hp := p.toNat_lt; have hq := q.toNat_lt; have hr := r.toNat_lt; have hs := s.toNat_lt
  unfold beU
  simp only [List.foldl_cons, List.foldl_nil]
  apply UInt32.toNat_inj.1
  have e0 : ((0 : UInt32) <<< 8 ||| p.toUInt32) = p.toUInt32 := by simp
  rw [e0]
  rw [u32_or_add (p.toUInt32 <<< 8) q.toUInt32 8 (by simp [UInt32.toNat_shiftLeft, Nat.shiftLeft_eq] <;> omega) (by simpa using hq)]
  rw [u32_or_add _ r.toUInt32 8 (by simp [UInt32.toNat_shiftLeft, Nat.shiftLeft_eq] <;> omega) (by simpa using hr)]
  rw [u32_or_add _ s.toUInt32 8 (by simp [UInt32.toNat_shiftLeft, Nat.shiftLeft_eq] <;> omega) (by simpa using hs)]
  simp [UInt32.toNat_shiftLeft, Nat.shiftLeft_eq, UInt32.toNat_add]
  omega
theorem pw2_done (b : List UInt8) (hb : b.length = 64) : pw2 b 16 = pw b 64 := by
  apply List.ext_getElem
  · simp [pw, pw2]
  · intro j h1 h2
    simp only [pw, pw2, List.getElem_map, List.getElem_range]
    rw [show b.take 64 = b from List.take_of_length_le (by omega)]
    by_cases hj : j < 16
    · rw [if_pos hj, wd, ← be4]
      congr 1
      have h0 : 4 * j + 3 < b.length := by omega
      apply List.ext_getElem
      · simp; omega
      · intro i h3 h4
        simp at h3
        rw [List.getElem_take, List.getElem_drop]
        have : i = 0 ∨ i = 1 ∨ i = 2 ∨ i = 3 := by omega
        rcases this with rfl | rfl | rfl | rfl <;> simp [List.getD_eq_getElem?_getD, List.getElem?_eq_getElem (show 4 * j < b.length by omega), List.getElem?_eq_getElem (show 4 * j + 1 < b.length by omega), List.getElem?_eq_getElem (show 4 * j + 2 < b.length by omega), List.getElem?_eq_getElem h0]
    · rw [if_neg hj, List.drop_eq_nil_of_le (by omega)]; rfl
end
end Go.Proofs.YthdckgcalooipaaDoor
namespace Go.Proofs.YthdckgcalooipaaDoor
section
open Go.RowKit
set_option linter.unusedVariables false
set_option linter.unusedSimpArgs false
set_option maxHeartbeats 2000000 in
set_option maxRecDepth 100000 in
theorem rspread_calls (b : List UInt8) (hb : b.length = 64) (w : World) :
    Calls Tryd.prog 33 #[.agg (b8s b)] w fun e w' => e = .returned (.agg (u32s (spread b))) ∧ Below w.heap.size w w' := by
  have hz := Lib.hid (zero_of_info w64_info).1
  obtain ⟨Z, hZ⟩ : ∃ Z, Z = u32s (List.replicate 64 0) := ⟨_, rfl⟩
  rw [← hZ] at hz
  obtain ⟨B, hB⟩ : ∃ B, B = b8s b := ⟨_, rfl⟩
  rw [← hB]
  have HB0 := Lib.hid hB
  have HZ := Lib.hid hZ
  clear hB hZ
  have hsz : (Tryd.prog.info? 53).map (·.size) = some (u32s (List.replicate 64 0)).size := (size_of w64_info).trans (by rw [u32s_size]; rfl)
  have HSZ := Lib.hid hsz
  clear hsz
  go_enter Tryd.func33, Tryd.ntmps33
  go_wp2_with (first
    | (refine wpList_box_arr rfl rfl rfl ?_; intro g1 w1 hg1 r1 hb1; have l1 := r1.lt)
    | (replace r2 := r2; refine wpList_alloc_arr rfl rfl hz.out ?_; intro g3 w3 hg3 r3 hb3; replace r1 := r1.bel hb3; replace r2 := r2.bel hb3)
    | (refine wpList_alloc_arr rfl rfl hz.out ?_; intro g2 w2 hg2 r2 hb2; replace r1 := r1.bel hb2; have l2 := r2.lt)
    | (rw [HZ.out] at r3 r2; refine wpList_store_arr (cells := u32s (List.replicate 64 0)) rfl rfl rfl rfl r3 HSZ.out rfl (u32s_one _) ?_; intro w4 r4 hu4))
  have hg12 : g1 < g2 := by omega
  have hg23 : g2 < g3 := by omega
  have hwg : w.heap.size ≤ g1 := hg1
  have hb := below_upd (Bel.trans _ _ _ (Bel.trans _ _ _ hb1 hb2) hb3) hu4 (by omega)
  have HB := Lib.hid hb
  have R1 := Lib.hid (r1.upd hu4 (by omega))
  have R2 := Lib.hid (r2.upd hu4 (by omega))
  rw [← pw2_zero b] at r4
  have R3 := Lib.hid r4
  rw [HB0.out] at R1
  clear hb hb1 hb2 hb3 r1 r2 r3 r4 l1 l2 hu4
  go_loopw [4] (fun i wr => ∃ j : Nat, i = .int .i64 j ∧ j ≤ 16 ∧ Row wr g3 53 (u32s (pw2 b j)) ∧ Row wr g2 53 (u32s (List.replicate 64 0)) ∧ Row wr g1 44 (b8s b) ∧ Below w.heap.size w wr) (fun i _ => 16 - (intOf i).toNat)
  case atStart => exact ⟨0, rfl, by omega, R3.out, R2.out, R1.out, HB.out⟩
  case round =>
    clear R1 R2 R3 HB
    obtain ⟨t, rfl, ht, r3, r2, r1, hb'⟩ := hrel
    have HB := Lib.hid hb'
    have R1 := Lib.hid r1
    have R2 := Lib.hid r2
    have R3 := Lib.hid r3
    clear r1 r2 r3 hb'
    by_cases hlt : t < 16
    · have hlt' : (t : Int) < 16 := by omega
      go_wp2
      obtain ⟨y0, hy0⟩ : ∃ x, b.getD (4 * t) 0 = x := ⟨_, rfl⟩
      obtain ⟨y1, hy1⟩ : ∃ x, b.getD (4 * t + 1) 0 = x := ⟨_, rfl⟩
      obtain ⟨y2, hy2⟩ : ∃ x, b.getD (4 * t + 2) 0 = x := ⟨_, rfl⟩
      obtain ⟨y3, hy3⟩ : ∃ x, b.getD (4 * t + 3) 0 = x := ⟨_, rfl⟩
      have HY0 := Lib.hid hy0
      have HY1 := Lib.hid hy1
      have HY2 := Lib.hid hy2
      have HY3 := Lib.hid hy3
      clear hy0 hy1 hy2 hy3
      have hv0 : IntKind.i64.wrap (4 * (t : Int)) = 4 * (t : Int) := wrap_small (by omega) (by omega)
      have ht0 : (4 * (t : Int)).toNat = 4 * t := by omega
      have hp0 : 0 ≤ 4 * (t : Int) := by omega
      have hq0 : 4 * (t : Int) < 64 := by omega
      have hv1 : IntKind.i64.wrap (4 * (t : Int) + 1) = 4 * (t : Int) + 1 := wrap_small (by omega) (by omega)
      have ht1 : (4 * (t : Int) + 1).toNat = 4 * t + 1 := by omega
      have hp1 : 0 ≤ 4 * (t : Int) + 1 := by omega
      have hq1 : 4 * (t : Int) + 1 < 64 := by omega
      have hv2 : IntKind.i64.wrap (4 * (t : Int) + 2) = 4 * (t : Int) + 2 := wrap_small (by omega) (by omega)
      have ht2 : (4 * (t : Int) + 2).toNat = 4 * t + 2 := by omega
      have hp2 : 0 ≤ 4 * (t : Int) + 2 := by omega
      have hq2 : 4 * (t : Int) + 2 < 64 := by omega
      have hv3 : IntKind.i64.wrap (4 * (t : Int) + 3) = 4 * (t : Int) + 3 := wrap_small (by omega) (by omega)
      have ht3 : (4 * (t : Int) + 3).toNat = 4 * t + 3 := by omega
      have hp3 : 0 ≤ 4 * (t : Int) + 3 := by omega
      have hq3 : 4 * (t : Int) + 3 < 64 := by omega
      have hlt64 : (t : Int) < 64 := by omega
      have HBR := Lib.hid (Below.refl wr.heap.size wr)
      try simp only [Act.put, List.setIfInBounds_toArray, List.set_cons_succ, List.set_cons_zero, Nat.reduceAdd, Nat.zero_add]
      refine wp_region_T 31 [] (by kernel_rfl) (by kernel_rfl) ?_
      intro ops F w0 pl hops hpl hw0 hF
      have hw0' := hw0.out
      subst hw0'
      simp only [List.take_succ_cons, List.take_zero, List.drop_succ_cons, List.drop_zero] at hF ⊢
      repeat (first | (refine wpL_pure (by first | rfl | (rw [hops.out]; rfl)) (by rw [hpl.out]; rfl) ?_ (fun wq hE hK => ?_) ?_; rotate_left; (clear hE hK; go_simp; rfl); (simp only [Act.put, List.setIfInBounds_toArray, List.set_cons_succ, List.set_cons_zero, Nat.reduceAdd, Nat.zero_add])) | (refine wpL_skip (by first | rfl | (rw [hops.out]; rfl)) ?_; simp only [Act.put, List.setIfInBounds_toArray, List.set_cons_succ, List.set_cons_zero, Nat.reduceAdd, Nat.zero_add]))
      refine wpL_pure (by first | rfl | (rw [hops.out]; rfl)) (by rw [hpl.out]; rfl) ?_ (fun wq hE hK => ?_) ?_
      rotate_left
      · have hc := (R1.out.bel (Bel.trans _ _ _ HBR.out hE)).w8 (i := 4 * t) (by omega)
        rw [HY0.out] at hc
        clear hE hK
        go_simp
        rfl
      simp only [Act.put, List.setIfInBounds_toArray, List.set_cons_succ, List.set_cons_zero, Nat.reduceAdd, Nat.zero_add]
      repeat (first | (refine wpL_pure (by first | rfl | (rw [hops.out]; rfl)) (by rw [hpl.out]; rfl) ?_ (fun wq hE hK => ?_) ?_; rotate_left; (clear hE hK; go_simp; rfl); (simp only [Act.put, List.setIfInBounds_toArray, List.set_cons_succ, List.set_cons_zero, Nat.reduceAdd, Nat.zero_add])) | (refine wpL_skip (by first | rfl | (rw [hops.out]; rfl)) ?_; simp only [Act.put, List.setIfInBounds_toArray, List.set_cons_succ, List.set_cons_zero, Nat.reduceAdd, Nat.zero_add]))
      refine wpL_pure (by first | rfl | (rw [hops.out]; rfl)) (by rw [hpl.out]; rfl) ?_ (fun wq hE hK => ?_) ?_
      rotate_left
      · have hc := (R1.out.bel (Bel.trans _ _ _ HBR.out hE)).w8 (i := 4 * t + 1) (by omega)
        rw [HY1.out] at hc
        clear hE hK
        go_simp
        rfl
      simp only [Act.put, List.setIfInBounds_toArray, List.set_cons_succ, List.set_cons_zero, Nat.reduceAdd, Nat.zero_add]
      repeat (first | (refine wpL_pure (by first | rfl | (rw [hops.out]; rfl)) (by rw [hpl.out]; rfl) ?_ (fun wq hE hK => ?_) ?_; rotate_left; (clear hE hK; go_simp; rfl); (simp only [Act.put, List.setIfInBounds_toArray, List.set_cons_succ, List.set_cons_zero, Nat.reduceAdd, Nat.zero_add])) | (refine wpL_skip (by first | rfl | (rw [hops.out]; rfl)) ?_; simp only [Act.put, List.setIfInBounds_toArray, List.set_cons_succ, List.set_cons_zero, Nat.reduceAdd, Nat.zero_add]))
      refine wpL_pure (by first | rfl | (rw [hops.out]; rfl)) (by rw [hpl.out]; rfl) ?_ (fun wq hE hK => ?_) ?_
      rotate_left
      · have hc := (R1.out.bel (Bel.trans _ _ _ HBR.out hE)).w8 (i := 4 * t + 2) (by omega)
        rw [HY2.out] at hc
        clear hE hK
        go_simp
        rfl
      simp only [Act.put, List.setIfInBounds_toArray, List.set_cons_succ, List.set_cons_zero, Nat.reduceAdd, Nat.zero_add]
      repeat (first | (refine wpL_pure (by first | rfl | (rw [hops.out]; rfl)) (by rw [hpl.out]; rfl) ?_ (fun wq hE hK => ?_) ?_; rotate_left; (clear hE hK; go_simp; rfl); (simp only [Act.put, List.setIfInBounds_toArray, List.set_cons_succ, List.set_cons_zero, Nat.reduceAdd, Nat.zero_add])) | (refine wpL_skip (by first | rfl | (rw [hops.out]; rfl)) ?_; simp only [Act.put, List.setIfInBounds_toArray, List.set_cons_succ, List.set_cons_zero, Nat.reduceAdd, Nat.zero_add]))
      refine wpL_pure (by first | rfl | (rw [hops.out]; rfl)) (by rw [hpl.out]; rfl) ?_ (fun wq hE hK => ?_) ?_
      rotate_left
      · have hc := (R1.out.bel (Bel.trans _ _ _ HBR.out hE)).w8 (i := 4 * t + 3) (by omega)
        rw [HY3.out] at hc
        clear hE hK
        go_simp
        rfl
      simp only [Act.put, List.setIfInBounds_toArray, List.set_cons_succ, List.set_cons_zero, Nat.reduceAdd, Nat.zero_add]
      repeat (first | (refine wpL_pure (by first | rfl | (rw [hops.out]; rfl)) (by rw [hpl.out]; rfl) ?_ (fun wq hE hK => ?_) ?_; rotate_left; (clear hE hK; go_simp; rfl); (simp only [Act.put, List.setIfInBounds_toArray, List.set_cons_succ, List.set_cons_zero, Nat.reduceAdd, Nat.zero_add])) | (refine wpL_skip (by first | rfl | (rw [hops.out]; rfl)) ?_; simp only [Act.put, List.setIfInBounds_toArray, List.set_cons_succ, List.set_cons_zero, Nat.reduceAdd, Nat.zero_add]))
      refine wpL_nil fun w' hE hK => hF.out _ _ ?_
      clear hK
      have r3 := R3.out.bel hE
      refine wpList_store_cell (v := .int .u32 (wv (y0.toUInt32 <<< 24 + y1.toUInt32 <<< 16 + y2.toUInt32 <<< 8 + y3.toUInt32))) rfl rfl rfl (by simp only [IntKind.wrap_u32, wv8m, wv_shl24, wv_shl16, wv_shl8, wv_add]; rfl) rfl r3 u32_one (by rw [u32s_size, pw2_len]; omega) ?_
      intro w5 r5 hu5
      go_wp2
      refine ⟨⟨t + 1, by go_num, by omega, ?_, (R2.out.bel hE).upd hu5 (by omega), (R1.out.bel hE).upd hu5 (by omega), below_upd (below_bel HB.out hE HB.out.size) hu5 (by omega)⟩, by simp [intOf]; omega⟩
      rw [pw2_succ, ← u32s_set, wd, HY0.out, HY1.out, HY2.out, HY3.out]
      simpa using r5
    · obtain rfl : t = 16 := by omega
      rw [pw2_done b hb] at R3
      clear R1
      go_wp2
      simp only [show ((16 : Nat) : Int) = 16 from rfl]
      go_loopw [5] (fun i wr2 => ∃ j : Nat, i = .int .i64 (j + 16 : Nat) ∧ j ≤ 48 ∧ Row wr2 g3 53 (u32s (spr (pw b 64) j)) ∧ Row wr2 g2 53 (u32s (List.replicate 64 0)) ∧ Below w.heap.size w wr2) (fun i _ => 64 - (intOf i).toNat)
      case atStart => exact ⟨0, rfl, by omega, R3.out, R2.out, HB.out⟩
      case round =>
        rename_i wr2
        clear R2 R3 HB hlt
        obtain ⟨j, rfl, hj, r3, r2, hb'⟩ := hrel
        have HB := Lib.hid hb'
        have R2 := Lib.hid r2
        have R3 := Lib.hid r3
        clear r2 r3 hb'
        by_cases hlt : j < 48
        · have hlt2 : j + 16 < 64 := by omega
          obtain ⟨x0, hx0⟩ : ∃ x, (spr (pw b 64) j).getD j 0 = x := ⟨_, rfl⟩
          obtain ⟨x1, hx1⟩ : ∃ x, (spr (pw b 64) j).getD (j + 1) 0 = x := ⟨_, rfl⟩
          obtain ⟨x9, hx9⟩ : ∃ x, (spr (pw b 64) j).getD (j + 9) 0 = x := ⟨_, rfl⟩
          obtain ⟨x14, hx14⟩ : ∃ x, (spr (pw b 64) j).getD (j + 14) 0 = x := ⟨_, rfl⟩
          have hL : (spr (pw b 64) j).length = 64 := by rw [spr_len, pw_len]
          have hc0 := R3.out.w32 (i := j) (by omega)
          rw [hx0] at hc0
          have HX0 := Lib.hid hx0
          have hc1 := R3.out.w32 (i := j + 1) (by omega)
          rw [hx1] at hc1
          have HX1 := Lib.hid hx1
          have hc9 := R3.out.w32 (i := j + 9) (by omega)
          rw [hx9] at hc9
          have HX9 := Lib.hid hx9
          have hc14 := R3.out.w32 (i := j + 14) (by omega)
          rw [hx14] at hc14
          have HX14 := Lib.hid hx14
          have HL := Lib.hid hL
          clear hx0 hx1 hx9 hx14 hL
          have hv0 := wrap_small (n := (j : Int)) (by omega) (by omega)
          have hz0 : (j : Int) < 64 := by omega
          have hv1 : IntKind.i64.wrap ((j : Int) + 16 - 15) = (j : Int) + 1 := by rw [wrap_small (by omega) (by omega)]; omega
          have ht1 : ((j : Int) + 1).toNat = j + 1 := by omega
          have hp1 : 0 ≤ (j : Int) + 1 := by omega
          have hz1 : (j : Int) + 1 < 64 := by omega
          have hv9 : IntKind.i64.wrap ((j : Int) + 16 - 7) = (j : Int) + 9 := by rw [wrap_small (by omega) (by omega)]; omega
          have ht9 : ((j : Int) + 9).toNat = j + 9 := by omega
          have hp9 : 0 ≤ (j : Int) + 9 := by omega
          have hz9 : (j : Int) + 9 < 64 := by omega
          have hv14 : IntKind.i64.wrap ((j : Int) + 16 - 2) = (j : Int) + 14 := by rw [wrap_small (by omega) (by omega)]; omega
          have ht14 : ((j : Int) + 14).toNat = j + 14 := by omega
          have hp14 : 0 ≤ (j : Int) + 14 := by omega
          have hz14 : (j : Int) + 14 < 64 := by omega
          go_wp2_with (first
            | (go_at_call 35; refine (rturned_calls _ _ _ (by decide)).mono ?_; rintro e w' ⟨rfl, rfl⟩)
            | (go_at_call 38; refine (rmoved_calls _ _ _ (by decide)).mono ?_; rintro e w' ⟨rfl, rfl⟩))
          clear hc0 hc1 hc9 hc14
          have hz16 : (j : Int) + 16 < 64 := by omega
          try simp only [Act.put, List.setIfInBounds_toArray, List.set_cons_succ, List.set_cons_zero, Nat.reduceAdd, Nat.zero_add]
          refine wp_region_T 15 [] (by kernel_rfl) (by kernel_rfl) ?_
          intro ops F w0 pl hops hpl hw0 hF
          have hw0' := hw0.out
          subst hw0'
          simp only [List.take_succ_cons, List.take_zero, List.drop_succ_cons, List.drop_zero] at hF ⊢
          repeat (first | (refine wpL_pure (by first | rfl | (rw [hops.out]; rfl)) (by rw [hpl.out]; rfl) ?_ (fun wq hE hK => ?_) ?_; rotate_left; (clear hE hK; go_simp; rfl); (simp only [Act.put, List.setIfInBounds_toArray, List.set_cons_succ, List.set_cons_zero, Nat.reduceAdd, Nat.zero_add])) | (refine wpL_skip (by first | rfl | (rw [hops.out]; rfl)) ?_; simp only [Act.put, List.setIfInBounds_toArray, List.set_cons_succ, List.set_cons_zero, Nat.reduceAdd, Nat.zero_add]))
          refine wpL_pure (by first | rfl | (rw [hops.out]; rfl)) (by rw [hpl.out]; rfl) ?_ (fun wq hE hK => ?_) ?_
          rotate_left
          · have hc := (R3.out.bel hE).w32 (i := j) (by rw [HL.out]; omega)
            rw [HX0.out] at hc
            clear hE hK
            go_simp
            rfl
          simp only [Act.put, List.setIfInBounds_toArray, List.set_cons_succ, List.set_cons_zero, Nat.reduceAdd, Nat.zero_add]
          repeat (first | (refine wpL_pure (by first | rfl | (rw [hops.out]; rfl)) (by rw [hpl.out]; rfl) ?_ (fun wq hE hK => ?_) ?_; rotate_left; (clear hE hK; go_simp; rfl); (simp only [Act.put, List.setIfInBounds_toArray, List.set_cons_succ, List.set_cons_zero, Nat.reduceAdd, Nat.zero_add])) | (refine wpL_skip (by first | rfl | (rw [hops.out]; rfl)) ?_; simp only [Act.put, List.setIfInBounds_toArray, List.set_cons_succ, List.set_cons_zero, Nat.reduceAdd, Nat.zero_add]))
          refine wpL_pure (by first | rfl | (rw [hops.out]; rfl)) (by rw [hpl.out]; rfl) ?_ (fun wq hE hK => ?_) ?_
          rotate_left
          · have hc := (R3.out.bel hE).w32 (i := j + 9) (by rw [HL.out]; omega)
            rw [HX9.out] at hc
            clear hE hK
            go_simp
            rfl
          simp only [Act.put, List.setIfInBounds_toArray, List.set_cons_succ, List.set_cons_zero, Nat.reduceAdd, Nat.zero_add]
          repeat (first | (refine wpL_pure (by first | rfl | (rw [hops.out]; rfl)) (by rw [hpl.out]; rfl) ?_ (fun wq hE hK => ?_) ?_; rotate_left; (clear hE hK; go_simp; rfl); (simp only [Act.put, List.setIfInBounds_toArray, List.set_cons_succ, List.set_cons_zero, Nat.reduceAdd, Nat.zero_add])) | (refine wpL_skip (by first | rfl | (rw [hops.out]; rfl)) ?_; simp only [Act.put, List.setIfInBounds_toArray, List.set_cons_succ, List.set_cons_zero, Nat.reduceAdd, Nat.zero_add]))
          refine wpL_nil fun w' hE hK => hF.out _ _ ?_
          clear hK
          have r3 := R3.out.bel hE
          refine wpList_store_cell (v := .int .u32 (wv (x0 + sg0 x1 + x9 + sg1 x14))) rfl rfl rfl (by simp only [IntKind.wrap_u32, wv_add]; rfl) rfl r3 u32_one (by rw [u32s_size, HL.out]; omega) ?_
          intro w5 r5 hu5
          go_wp2
          refine ⟨⟨j + 1, by first | (push_cast; omega) | go_num | (simp; omega), by omega, ?_, (R2.out.bel hE).upd hu5 (by omega), below_upd (below_bel HB.out hE HB.out.size) hu5 (by omega)⟩, by simp [intOf]; omega⟩
          rw [u32s_set, ← HX0.out, ← HX1.out, ← HX9.out, ← HX14.out, show ((j : Int) + 16).toNat = 16 + j by omega] at r5
          have e : wnext (spr (pw b 64) j) (16 + j) = (spr (pw b 64) j).getD j 0 + sg0 ((spr (pw b 64) j).getD (j + 1) 0) + (spr (pw b 64) j).getD (j + 9) 0 + sg1 ((spr (pw b 64) j).getD (j + 14) 0) := by
            unfold wnext
            rw [show 16 + j - 16 = j by omega, show 16 + j - 15 = j + 1 by omega, show 16 + j - 7 = j + 9 by omega, show 16 + j - 2 = j + 14 by omega]
          rw [spr, e]
          exact r5
        · obtain rfl : j = 48 := by omega
          have hsz : (Tryd.prog.info? 53).map (·.size) = some (u32s (spr (pw b 64) 48)).size := (size_of w64_info).trans (by rw [u32s_size, spr_len, pw_len])
          go_wp2_with (first
            | (refine wpList_load_arr rfl rfl rfl R3.out w64_und hsz ?_)
            | (refine wpList_store_arr rfl rfl rfl rfl R2.out hsz (by rw [u32s_size, u32s_size, spr_len, pw_len]; rfl) (u32s_one _) ?_; intro w5 r5 hu5))
          exact ret_arr rfl rfl r5 w64_und hsz ⟨rfl, below_upd HB.out hu5 (by omega)⟩
end
end Go.Proofs.YthdckgcalooipaaDoor
namespace Go.Proofs.YthdckgcalooipaaDoor
section
open Go.RowKit
set_option linter.unusedVariables false
set_option linter.unusedSimpArgs false
set_option maxRecDepth 100000 in
set_option maxHeartbeats 1000000 in
theorem numbers_calls (w : World) : Calls Tryd.prog 34 #[] w fun e w' => ∃ g, e = .returned (.slice (some ⟨g, 0, none⟩) 64 64) ∧ Row w' g 22 (u32s nums) ∧ w.heap.size ≤ g ∧ Bel w w' := by
  go_enter Tryd.func34, Tryd.ntmps34
  go_wp2
  go_ret
  exact ⟨_, rfl, Row.new _ _ _, Nat.le_refl _, bel_alloc _ _⟩
theorem wv_not (a : UInt32) : bits .xor .u32 (if IntKind.u32.signed = true then -1 else IntKind.u32.max) (wv a) = wv (~~~a) := by
  have h : (if IntKind.u32.signed = true then (-1 : Int) else IntKind.u32.max) = wv 4294967295 := by decide
  rw [h, wv_xor]
  congr 1
theorem ch_eq (e f g : UInt32) : (e &&& f) ||| (~~~e &&& g) = chf e f g := by
  unfold chf
  apply UInt32.toBitVec_inj.1
  simp only [UInt32.toBitVec_or, UInt32.toBitVec_and, UInt32.toBitVec_not, UInt32.toBitVec_xor]
  ext i
  simp only [BitVec.getElem_or, BitVec.getElem_and, BitVec.getElem_not, BitVec.getElem_xor]
  cases e.toBitVec[i] <;> cases f.toBitVec[i] <;> cases g.toBitVec[i] <;> rfl
theorem maj_eq (a b c : UInt32) : ((a &&& b) ||| (a &&& c)) ||| (b &&& c) = maj a b c := by
  unfold maj
  apply UInt32.toBitVec_inj.1
  simp only [UInt32.toBitVec_or, UInt32.toBitVec_and, UInt32.toBitVec_xor]
  ext i
  simp only [BitVec.getElem_or, BitVec.getElem_and, BitVec.getElem_xor]
  cases a.toBitVec[i] <;> cases b.toBitVec[i] <;> cases c.toBitVec[i] <;> rfl
set_option maxHeartbeats 4000000 in
set_option maxRecDepth 100000 in
theorem rmix_calls (h : List UInt32) (b : List UInt8) (hh : h.length = 8) (hb : b.length = 64) (w : World) :
    Calls Tryd.prog 29 #[.agg (u32s h), .agg (b8s b)] w fun e w' => e = .returned (.agg (u32s (mix h b))) ∧ Below w.heap.size w w' := by
  have hz := Lib.hid (zero_of_info w64_info).1
  have hz8 := Lib.hid (zero_of_info w8_info).1
  obtain ⟨Z, hZ⟩ : ∃ Z, Z = u32s (List.replicate 64 0) := ⟨_, rfl⟩
  rw [← hZ] at hz
  obtain ⟨Z8, hZ8⟩ : ∃ Z, Z = u32s (List.replicate 8 0) := ⟨_, rfl⟩
  rw [← hZ8] at hz8
  obtain ⟨B, hB⟩ : ∃ B, B = b8s b := ⟨_, rfl⟩
  have hBs : B.size = 64 := by rw [hB, b8s_size, hb]
  obtain ⟨H, hH⟩ : ∃ H, H = u32s h := ⟨_, rfl⟩
  have hHs : H.size = 8 := by rw [hH, u32s_size, hh]
  rw [← hB, ← hH]
  have HBS := Lib.hid hBs
  have HHS := Lib.hid hHs
  have HB0 := Lib.hid hB
  have HH0 := Lib.hid hH
  have HZ := Lib.hid hZ
  have HZ8 := Lib.hid hZ8
  have hsz : (Tryd.prog.info? 53).map (·.size) = some (u32s (spread b)).size := (size_of w64_info).trans (by rw [u32s_size, rounds_len])
  have HSZ := Lib.hid hsz
  have hsz8 : (Tryd.prog.info? 23).map (·.size) = some H.size := (size_of w8_info).trans (by rw [hHs])
  have HSZ8 := Lib.hid hsz8
  have hone : H.all (·.oneCell') = true := by rw [hH]; exact u32s_one _
  have HONE := Lib.hid hone
  clear hBs hB hZ hZ8 hH hHs hsz hsz8 hone
  go_enter Tryd.func29, Tryd.ntmps29
  go_wp2_with (first
    | (replace r2 := r2; refine wpList_box_arr rfl rfl rfl ?_; intro g3 w3 hg3 r3 hb3; replace r2 := r2.bel hb3; have l3 := r3.lt)
    | (refine wpList_box_arr rfl rfl rfl ?_; intro g2 w2 hg2 r2 hb2; have l2 := r2.lt)
    | (replace r4 := r4; refine wpList_alloc_arr rfl rfl hz8.out ?_; intro g7 w9 hg7 r7 hb9; have p2 := r2.lt; have p4 := r4.lt; have p5 := r5.lt; have p6 := r6.lt; replace r2 := r2.bel hb9; replace r4 := r4.bel hb9; replace r5 := r5.bel hb9; replace r6 := r6.bel hb9)
    | (refine wpList_alloc_arr rfl rfl hz8.out ?_; intro g4 w4 hg4 r4 hb4; replace r2 := r2.bel hb4; replace r3 := r3.bel hb4; have l4 := r4.lt)
    | (refine wpList_load_arr rfl rfl rfl r3 b64_und ((size_of b64_info).trans (by rw [HBS.out])) ?_)
    | (refine wpList_load_arr rfl rfl rfl r2 w8_und HSZ8.out ?_)
    | (go_at_call 33; rw [HB0.out]; refine (rspread_calls b hb _).mono ?_; rintro e w5 ⟨rfl, hb5⟩; replace r2 := r2.bel hb5; replace r4 := r4.bel hb5)
    | (refine wpList_alloc_arr rfl rfl hz.out ?_; intro g5 w6 hg5 r5 hb6; rw [HZ.out] at r5; have q2 := r2.lt; have q4 := r4.lt; replace r2 := r2.bel hb6; replace r4 := r4.bel hb6; have l5 := r5.lt)
    | (refine wpList_store_arr rfl rfl rfl rfl r5 HSZ.out (by rw [u32s_size, u32s_size, rounds_len]; rfl) (u32s_one _) ?_; intro w7 r5 hu7; replace r2 := r2.upd hu7 (by omega); replace r4 := r4.upd hu7 (by omega))
    | (go_at_call 34; refine (numbers_calls _).mono ?_; rintro e w8 ⟨g6, rfl, r6, hg6, hb8⟩; replace r2 := r2.bel hb8; replace r4 := r4.bel hb8; replace r5 := r5.bel hb8; have l6 := r6.lt)
    | (refine wpList_store_arr rfl rfl rfl rfl r7 HSZ8.out (by rw [HZ8.out, HHS.out]; rfl) HONE.out ?_; intro w10 r7 hu10))
  have hwg : w.heap.size ≤ g2 := hg2
  have hwg4 : w.heap.size ≤ g4 := by omega
  have hb10 := below_upd (Bel.trans _ _ _ (Bel.trans _ _ _ hb2 hb3) (Bel.trans _ _ _ hb4 (Bel.trans _ _ _ hb5 hb6))) hu7 (by omega)
  have hb10 := below_upd (below_bel (below_bel hb10 hb8 hb10.size) hb9 (Nat.le_trans hb10.size hb8.size)) hu10 (by omega)
  have HB := Lib.hid hb10
  have R2 := Lib.hid (r2.upd hu10 (by omega))
  have R4 := Lib.hid (r4.upd hu10 (by omega))
  have R5 := Lib.hid (r5.upd hu10 (by omega))
  have R6 := Lib.hid (r6.upd hu10 (by omega))
  rw [HH0.out] at r7
  have hr7 : Row w10 g7 23 (u32s (stOf h).list) := by
    have e : (stOf h).list = h := by
      match h, hh with
      | [_, _, _, _, _, _, _, _], _ => rfl
    rw [e]; exact r7
  have R7 := Lib.hid hr7
  clear hb10 hb2 hb3 hb4 hb5 hb6 hu7 hb8 hb9 hu10 r2 r3 r4 r5 r6 r7 hr7 l2 l3 l4 l5 l6 q2 q4
  go_loopw [8] (fun i wr => ∃ (t : Nat), i = .int .i64 t ∧ t ≤ 64 ∧ Row wr g7 23 (u32s (rounds b (stOf h) t).list) ∧ Row wr g2 23 H ∧ Row wr g4 23 Z8 ∧ Row wr g5 53 (u32s (spread b)) ∧ Row wr g6 22 (u32s nums) ∧ Below w.heap.size w wr) (fun i _ => 64 - (intOf i).toNat)
  case atStart => exact ⟨0, rfl, by omega, R7.out, R2.out, R4.out, R5.out, R6.out, HB.out⟩
  case round =>
    clear R2 R4 R5 R6 R7 HB
    obtain ⟨t, rfl, ht, r7, r2, r4, r5, r6, hbr⟩ := hrel
    obtain ⟨s, hs⟩ : ∃ s, rounds b (stOf h) t = s := ⟨_, rfl⟩
    rw [hs] at r7
    have HS := Lib.hid hs
    have HB := Lib.hid hbr
    have R2 := Lib.hid r2
    have R4 := Lib.hid r4
    have R5 := Lib.hid r5
    have R6 := Lib.hid r6
    by_cases hlt : t < 64
    · obtain ⟨a1, b1, c1, d1, e1, f1, g1, z1⟩ := s
      have R7 : Hid (Row wr g7 23 (u32s [a1, b1, c1, d1, e1, f1, g1, z1])) := Lib.hid r7
      clear hs hbr r2 r4 r5 r6 r7
      obtain ⟨n, hn⟩ : ∃ n, nums.getD t 0 = n := ⟨_, rfl⟩
      obtain ⟨x, hx⟩ : ∃ n, (spread b).getD t 0 = n := ⟨_, rfl⟩
      have HNN := Lib.hid hn
      have HX := Lib.hid hx
      have hlt' : (t : Int) < 64 := by omega
      clear hn hx
      have hc4 : wr.cell? ⟨g7, 4, none⟩ = some (.int .u32 (wv e1)) := R7.out.w32 (i := 4) (by simp)
      have hc0 : wr.cell? ⟨g7, 0, none⟩ = some (.int .u32 (wv a1)) := R7.out.w32 (i := 0) (by simp)
      go_wp2
      clear hc4 hc0
      have HBR := Lib.hid (Below.refl wr.heap.size wr)
      try simp only [Act.put, List.setIfInBounds_toArray, List.set_cons_succ, List.set_cons_zero, Nat.reduceAdd, Nat.zero_add]
      refine wp_region_A [(3, MG.val (.int .u32 (wv (rotr e1 6)))), (5, MG.val (.int .u32 (wv (rotr e1 11)))), (8, MG.val (.int .u32 (wv (rotr e1 25))))] (by kernel_rfl) (by kernel_rfl) ?_
      intro ops F w0 pl hops hpl hw0 hF
      have hw0' := hw0.out
      subst hw0'
      repeat (first | (refine wpL_pure (by first | rfl | (rw [hops.out]; rfl)) (by rw [hpl.out]; rfl) ?_ (fun wq hE hK => ?_) ?_; rotate_left; (clear hE hK; go_simp; rfl); (simp only [Act.put, List.setIfInBounds_toArray, List.set_cons_succ, List.set_cons_zero, Nat.reduceAdd, Nat.zero_add])) | (refine wpL_skip (by first | rfl | (rw [hops.out]; rfl)) ?_; simp only [Act.put, List.setIfInBounds_toArray, List.set_cons_succ, List.set_cons_zero, Nat.reduceAdd, Nat.zero_add]))
      refine wpL_pure (by first | rfl | (rw [hops.out]; rfl)) (by rw [hpl.out]; rfl) ?_ (fun wq hE hK => ?_) ?_
      rotate_left
      · have hc : wq.cell? ⟨g7, 7, none⟩ = some (.int .u32 (wv z1)) := (R7.out.bel (Bel.trans _ _ _ HBR.out hE)).w32 (i := 7) (by simp)
        clear hE hK
        go_simp
        rfl
      simp only [Act.put, List.setIfInBounds_toArray, List.set_cons_succ, List.set_cons_zero, Nat.reduceAdd, Nat.zero_add]
      repeat (first | (refine wpL_pure (by first | rfl | (rw [hops.out]; rfl)) (by rw [hpl.out]; rfl) ?_ (fun wq hE hK => ?_) ?_; rotate_left; (clear hE hK; go_simp; rfl); (simp only [Act.put, List.setIfInBounds_toArray, List.set_cons_succ, List.set_cons_zero, Nat.reduceAdd, Nat.zero_add])) | (refine wpL_skip (by first | rfl | (rw [hops.out]; rfl)) ?_; simp only [Act.put, List.setIfInBounds_toArray, List.set_cons_succ, List.set_cons_zero, Nat.reduceAdd, Nat.zero_add]))
      refine wpL_val (u := .int .u32 (wv (rotr e1 6))) (by first | rfl | (rw [hops.out]; rfl)) (by rw [hpl.out]; rfl) (fun wq hE hK => ?_) ?_
      · unfold StepOk
        clear hK
        go_simp
        refine (rturned_calls e1 _ _ (by decide)).mono ?_
        rintro e w' ⟨rfl, rfl⟩
        exact ⟨rfl, Below.refl _ _⟩
      simp only [Act.put, List.setIfInBounds_toArray, List.set_cons_succ, List.set_cons_zero, Nat.reduceAdd, Nat.zero_add]
      repeat (first | (refine wpL_pure (by first | rfl | (rw [hops.out]; rfl)) (by rw [hpl.out]; rfl) ?_ (fun wq hE hK => ?_) ?_; rotate_left; (clear hE hK; go_simp; rfl); (simp only [Act.put, List.setIfInBounds_toArray, List.set_cons_succ, List.set_cons_zero, Nat.reduceAdd, Nat.zero_add])) | (refine wpL_skip (by first | rfl | (rw [hops.out]; rfl)) ?_; simp only [Act.put, List.setIfInBounds_toArray, List.set_cons_succ, List.set_cons_zero, Nat.reduceAdd, Nat.zero_add]))
      refine wpL_val (u := .int .u32 (wv (rotr e1 11))) (by first | rfl | (rw [hops.out]; rfl)) (by rw [hpl.out]; rfl) (fun wq hE hK => ?_) ?_
      · unfold StepOk
        clear hK
        go_simp
        refine (rturned_calls e1 _ _ (by decide)).mono ?_
        rintro e w' ⟨rfl, rfl⟩
        exact ⟨rfl, Below.refl _ _⟩
      simp only [Act.put, List.setIfInBounds_toArray, List.set_cons_succ, List.set_cons_zero, Nat.reduceAdd, Nat.zero_add]
      repeat (first | (refine wpL_pure (by first | rfl | (rw [hops.out]; rfl)) (by rw [hpl.out]; rfl) ?_ (fun wq hE hK => ?_) ?_; rotate_left; (clear hE hK; go_simp; rfl); (simp only [Act.put, List.setIfInBounds_toArray, List.set_cons_succ, List.set_cons_zero, Nat.reduceAdd, Nat.zero_add])) | (refine wpL_skip (by first | rfl | (rw [hops.out]; rfl)) ?_; simp only [Act.put, List.setIfInBounds_toArray, List.set_cons_succ, List.set_cons_zero, Nat.reduceAdd, Nat.zero_add]))
      refine wpL_val (u := .int .u32 (wv (rotr e1 25))) (by first | rfl | (rw [hops.out]; rfl)) (by rw [hpl.out]; rfl) (fun wq hE hK => ?_) ?_
      · unfold StepOk
        clear hK
        go_simp
        refine (rturned_calls e1 _ _ (by decide)).mono ?_
        rintro e w' ⟨rfl, rfl⟩
        exact ⟨rfl, Below.refl _ _⟩
      simp only [Act.put, List.setIfInBounds_toArray, List.set_cons_succ, List.set_cons_zero, Nat.reduceAdd, Nat.zero_add]
      repeat (first | (refine wpL_pure (by first | rfl | (rw [hops.out]; rfl)) (by rw [hpl.out]; rfl) ?_ (fun wq hE hK => ?_) ?_; rotate_left; (clear hE hK; go_simp; rfl); (simp only [Act.put, List.setIfInBounds_toArray, List.set_cons_succ, List.set_cons_zero, Nat.reduceAdd, Nat.zero_add])) | (refine wpL_skip (by first | rfl | (rw [hops.out]; rfl)) ?_; simp only [Act.put, List.setIfInBounds_toArray, List.set_cons_succ, List.set_cons_zero, Nat.reduceAdd, Nat.zero_add]))
      refine wpL_pure (by first | rfl | (rw [hops.out]; rfl)) (by rw [hpl.out]; rfl) ?_ (fun wq hE hK => ?_) ?_
      rotate_left
      · have hc : wq.cell? ⟨g7, 5, none⟩ = some (.int .u32 (wv f1)) := (R7.out.bel (Bel.trans _ _ _ HBR.out hE)).w32 (i := 5) (by simp)
        clear hE hK
        go_simp
        rfl
      simp only [Act.put, List.setIfInBounds_toArray, List.set_cons_succ, List.set_cons_zero, Nat.reduceAdd, Nat.zero_add]
      repeat (first | (refine wpL_pure (by first | rfl | (rw [hops.out]; rfl)) (by rw [hpl.out]; rfl) ?_ (fun wq hE hK => ?_) ?_; rotate_left; (clear hE hK; go_simp; rfl); (simp only [Act.put, List.setIfInBounds_toArray, List.set_cons_succ, List.set_cons_zero, Nat.reduceAdd, Nat.zero_add])) | (refine wpL_skip (by first | rfl | (rw [hops.out]; rfl)) ?_; simp only [Act.put, List.setIfInBounds_toArray, List.set_cons_succ, List.set_cons_zero, Nat.reduceAdd, Nat.zero_add]))
      refine wpL_pure (by first | rfl | (rw [hops.out]; rfl)) (by rw [hpl.out]; rfl) ?_ (fun wq hE hK => ?_) ?_
      rotate_left
      · have hc : wq.cell? ⟨g7, 6, none⟩ = some (.int .u32 (wv g1)) := (R7.out.bel (Bel.trans _ _ _ HBR.out hE)).w32 (i := 6) (by simp)
        clear hE hK
        go_simp
        rfl
      simp only [Act.put, List.setIfInBounds_toArray, List.set_cons_succ, List.set_cons_zero, Nat.reduceAdd, Nat.zero_add]
      repeat (first | (refine wpL_pure (by first | rfl | (rw [hops.out]; rfl)) (by rw [hpl.out]; rfl) ?_ (fun wq hE hK => ?_) ?_; rotate_left; (clear hE hK; go_simp; rfl); (simp only [Act.put, List.setIfInBounds_toArray, List.set_cons_succ, List.set_cons_zero, Nat.reduceAdd, Nat.zero_add])) | (refine wpL_skip (by first | rfl | (rw [hops.out]; rfl)) ?_; simp only [Act.put, List.setIfInBounds_toArray, List.set_cons_succ, List.set_cons_zero, Nat.reduceAdd, Nat.zero_add]))
      refine wpL_pure (by first | rfl | (rw [hops.out]; rfl)) (by rw [hpl.out]; rfl) ?_ (fun wq hE hK => ?_) ?_
      rotate_left
      · have hc := (R6.out.bel (Bel.trans _ _ _ HBR.out hE)).w32 (i := t) (by rw [nums_len]; omega)
        rw [HNN.out] at hc
        clear hE hK
        go_simp
        rfl
      simp only [Act.put, List.setIfInBounds_toArray, List.set_cons_succ, List.set_cons_zero, Nat.reduceAdd, Nat.zero_add]
      repeat (first | (refine wpL_pure (by first | rfl | (rw [hops.out]; rfl)) (by rw [hpl.out]; rfl) ?_ (fun wq hE hK => ?_) ?_; rotate_left; (clear hE hK; go_simp; rfl); (simp only [Act.put, List.setIfInBounds_toArray, List.set_cons_succ, List.set_cons_zero, Nat.reduceAdd, Nat.zero_add])) | (refine wpL_skip (by first | rfl | (rw [hops.out]; rfl)) ?_; simp only [Act.put, List.setIfInBounds_toArray, List.set_cons_succ, List.set_cons_zero, Nat.reduceAdd, Nat.zero_add]))
      refine wpL_pure (by first | rfl | (rw [hops.out]; rfl)) (by rw [hpl.out]; rfl) ?_ (fun wq hE hK => ?_) ?_
      rotate_left
      · have hc := (R5.out.bel (Bel.trans _ _ _ HBR.out hE)).w32 (i := t) (by rw [rounds_len]; omega)
        rw [HX.out] at hc
        clear hE hK
        go_simp
        rfl
      simp only [Act.put, List.setIfInBounds_toArray, List.set_cons_succ, List.set_cons_zero, Nat.reduceAdd, Nat.zero_add]
      repeat (first | (refine wpL_pure (by first | rfl | (rw [hops.out]; rfl)) (by rw [hpl.out]; rfl) ?_ (fun wq hE hK => ?_) ?_; rotate_left; (clear hE hK; go_simp; rfl); (simp only [Act.put, List.setIfInBounds_toArray, List.set_cons_succ, List.set_cons_zero, Nat.reduceAdd, Nat.zero_add])) | (refine wpL_skip (by first | rfl | (rw [hops.out]; rfl)) ?_; simp only [Act.put, List.setIfInBounds_toArray, List.set_cons_succ, List.set_cons_zero, Nat.reduceAdd, Nat.zero_add]))
      refine wpL_nil fun w' hE hK => hF.out _ _ ?_
      clear hK
      have HBR := Lib.hid (Bel.trans _ _ _ HBR.out hE)
      clear hE
      simp only [IntKind.wrap_u32, wv_not, wv_xor, wv_and, wv_or, wv_add, ch_eq]
      obtain ⟨p, hp⟩ : ∃ p, z1 + (rotr e1 6 ^^^ rotr e1 11 ^^^ rotr e1 25) + chf e1 f1 g1 + n + x = p := ⟨_, rfl⟩
      rw [hp]
      have HP := Lib.hid hp
      clear hp
      go_wp2
      try simp only [Act.put, List.setIfInBounds_toArray, List.set_cons_succ, List.set_cons_zero, Nat.reduceAdd, Nat.zero_add]
      refine wp_region_A [(1, MG.val (.int .u32 (wv (rotr a1 2)))), (3, MG.val (.int .u32 (wv (rotr a1 13)))), (6, MG.val (.int .u32 (wv (rotr a1 22))))] (by kernel_rfl) (by kernel_rfl) ?_
      intro ops F w0 pl hops hpl hw0 hF
      have hw0' := hw0.out
      subst hw0'
      repeat (first | (refine wpL_pure (by first | rfl | (rw [hops.out]; rfl)) (by rw [hpl.out]; rfl) ?_ (fun wq hE hK => ?_) ?_; rotate_left; (clear hE hK; go_simp; rfl); (simp only [Act.put, List.setIfInBounds_toArray, List.set_cons_succ, List.set_cons_zero, Nat.reduceAdd, Nat.zero_add])) | (refine wpL_skip (by first | rfl | (rw [hops.out]; rfl)) ?_; simp only [Act.put, List.setIfInBounds_toArray, List.set_cons_succ, List.set_cons_zero, Nat.reduceAdd, Nat.zero_add]))
      refine wpL_val (u := .int .u32 (wv (rotr a1 2))) (by first | rfl | (rw [hops.out]; rfl)) (by rw [hpl.out]; rfl) (fun wq hE hK => ?_) ?_
      · unfold StepOk
        clear hK
        go_simp
        refine (rturned_calls a1 _ _ (by decide)).mono ?_
        rintro e w' ⟨rfl, rfl⟩
        exact ⟨rfl, Below.refl _ _⟩
      simp only [Act.put, List.setIfInBounds_toArray, List.set_cons_succ, List.set_cons_zero, Nat.reduceAdd, Nat.zero_add]
      repeat (first | (refine wpL_pure (by first | rfl | (rw [hops.out]; rfl)) (by rw [hpl.out]; rfl) ?_ (fun wq hE hK => ?_) ?_; rotate_left; (clear hE hK; go_simp; rfl); (simp only [Act.put, List.setIfInBounds_toArray, List.set_cons_succ, List.set_cons_zero, Nat.reduceAdd, Nat.zero_add])) | (refine wpL_skip (by first | rfl | (rw [hops.out]; rfl)) ?_; simp only [Act.put, List.setIfInBounds_toArray, List.set_cons_succ, List.set_cons_zero, Nat.reduceAdd, Nat.zero_add]))
      refine wpL_val (u := .int .u32 (wv (rotr a1 13))) (by first | rfl | (rw [hops.out]; rfl)) (by rw [hpl.out]; rfl) (fun wq hE hK => ?_) ?_
      · unfold StepOk
        clear hK
        go_simp
        refine (rturned_calls a1 _ _ (by decide)).mono ?_
        rintro e w' ⟨rfl, rfl⟩
        exact ⟨rfl, Below.refl _ _⟩
      simp only [Act.put, List.setIfInBounds_toArray, List.set_cons_succ, List.set_cons_zero, Nat.reduceAdd, Nat.zero_add]
      repeat (first | (refine wpL_pure (by first | rfl | (rw [hops.out]; rfl)) (by rw [hpl.out]; rfl) ?_ (fun wq hE hK => ?_) ?_; rotate_left; (clear hE hK; go_simp; rfl); (simp only [Act.put, List.setIfInBounds_toArray, List.set_cons_succ, List.set_cons_zero, Nat.reduceAdd, Nat.zero_add])) | (refine wpL_skip (by first | rfl | (rw [hops.out]; rfl)) ?_; simp only [Act.put, List.setIfInBounds_toArray, List.set_cons_succ, List.set_cons_zero, Nat.reduceAdd, Nat.zero_add]))
      refine wpL_val (u := .int .u32 (wv (rotr a1 22))) (by first | rfl | (rw [hops.out]; rfl)) (by rw [hpl.out]; rfl) (fun wq hE hK => ?_) ?_
      · unfold StepOk
        clear hK
        go_simp
        refine (rturned_calls a1 _ _ (by decide)).mono ?_
        rintro e w' ⟨rfl, rfl⟩
        exact ⟨rfl, Below.refl _ _⟩
      simp only [Act.put, List.setIfInBounds_toArray, List.set_cons_succ, List.set_cons_zero, Nat.reduceAdd, Nat.zero_add]
      repeat (first | (refine wpL_pure (by first | rfl | (rw [hops.out]; rfl)) (by rw [hpl.out]; rfl) ?_ (fun wq hE hK => ?_) ?_; rotate_left; (clear hE hK; go_simp; rfl); (simp only [Act.put, List.setIfInBounds_toArray, List.set_cons_succ, List.set_cons_zero, Nat.reduceAdd, Nat.zero_add])) | (refine wpL_skip (by first | rfl | (rw [hops.out]; rfl)) ?_; simp only [Act.put, List.setIfInBounds_toArray, List.set_cons_succ, List.set_cons_zero, Nat.reduceAdd, Nat.zero_add]))
      refine wpL_pure (by first | rfl | (rw [hops.out]; rfl)) (by rw [hpl.out]; rfl) ?_ (fun wq hE hK => ?_) ?_
      rotate_left
      · have hc : wq.cell? ⟨g7, 1, none⟩ = some (.int .u32 (wv b1)) := (R7.out.bel (Bel.trans _ _ _ HBR.out hE)).w32 (i := 1) (by simp)
        clear hE hK
        go_simp
        rfl
      simp only [Act.put, List.setIfInBounds_toArray, List.set_cons_succ, List.set_cons_zero, Nat.reduceAdd, Nat.zero_add]
      repeat (first | (refine wpL_pure (by first | rfl | (rw [hops.out]; rfl)) (by rw [hpl.out]; rfl) ?_ (fun wq hE hK => ?_) ?_; rotate_left; (clear hE hK; go_simp; rfl); (simp only [Act.put, List.setIfInBounds_toArray, List.set_cons_succ, List.set_cons_zero, Nat.reduceAdd, Nat.zero_add])) | (refine wpL_skip (by first | rfl | (rw [hops.out]; rfl)) ?_; simp only [Act.put, List.setIfInBounds_toArray, List.set_cons_succ, List.set_cons_zero, Nat.reduceAdd, Nat.zero_add]))
      refine wpL_pure (by first | rfl | (rw [hops.out]; rfl)) (by rw [hpl.out]; rfl) ?_ (fun wq hE hK => ?_) ?_
      rotate_left
      · have hc : wq.cell? ⟨g7, 2, none⟩ = some (.int .u32 (wv c1)) := (R7.out.bel (Bel.trans _ _ _ HBR.out hE)).w32 (i := 2) (by simp)
        clear hE hK
        go_simp
        rfl
      simp only [Act.put, List.setIfInBounds_toArray, List.set_cons_succ, List.set_cons_zero, Nat.reduceAdd, Nat.zero_add]
      repeat (first | (refine wpL_pure (by first | rfl | (rw [hops.out]; rfl)) (by rw [hpl.out]; rfl) ?_ (fun wq hE hK => ?_) ?_; rotate_left; (clear hE hK; go_simp; rfl); (simp only [Act.put, List.setIfInBounds_toArray, List.set_cons_succ, List.set_cons_zero, Nat.reduceAdd, Nat.zero_add])) | (refine wpL_skip (by first | rfl | (rw [hops.out]; rfl)) ?_; simp only [Act.put, List.setIfInBounds_toArray, List.set_cons_succ, List.set_cons_zero, Nat.reduceAdd, Nat.zero_add]))
      refine wpL_pure (by first | rfl | (rw [hops.out]; rfl)) (by rw [hpl.out]; rfl) ?_ (fun wq hE hK => ?_) ?_
      rotate_left
      · have hc : wq.cell? ⟨g7, 1, none⟩ = some (.int .u32 (wv b1)) := (R7.out.bel (Bel.trans _ _ _ HBR.out hE)).w32 (i := 1) (by simp)
        clear hE hK
        go_simp
        rfl
      simp only [Act.put, List.setIfInBounds_toArray, List.set_cons_succ, List.set_cons_zero, Nat.reduceAdd, Nat.zero_add]
      repeat (first | (refine wpL_pure (by first | rfl | (rw [hops.out]; rfl)) (by rw [hpl.out]; rfl) ?_ (fun wq hE hK => ?_) ?_; rotate_left; (clear hE hK; go_simp; rfl); (simp only [Act.put, List.setIfInBounds_toArray, List.set_cons_succ, List.set_cons_zero, Nat.reduceAdd, Nat.zero_add])) | (refine wpL_skip (by first | rfl | (rw [hops.out]; rfl)) ?_; simp only [Act.put, List.setIfInBounds_toArray, List.set_cons_succ, List.set_cons_zero, Nat.reduceAdd, Nat.zero_add]))
      refine wpL_pure (by first | rfl | (rw [hops.out]; rfl)) (by rw [hpl.out]; rfl) ?_ (fun wq hE hK => ?_) ?_
      rotate_left
      · have hc : wq.cell? ⟨g7, 2, none⟩ = some (.int .u32 (wv c1)) := (R7.out.bel (Bel.trans _ _ _ HBR.out hE)).w32 (i := 2) (by simp)
        clear hE hK
        go_simp
        rfl
      simp only [Act.put, List.setIfInBounds_toArray, List.set_cons_succ, List.set_cons_zero, Nat.reduceAdd, Nat.zero_add]
      repeat (first | (refine wpL_pure (by first | rfl | (rw [hops.out]; rfl)) (by rw [hpl.out]; rfl) ?_ (fun wq hE hK => ?_) ?_; rotate_left; (clear hE hK; go_simp; rfl); (simp only [Act.put, List.setIfInBounds_toArray, List.set_cons_succ, List.set_cons_zero, Nat.reduceAdd, Nat.zero_add])) | (refine wpL_skip (by first | rfl | (rw [hops.out]; rfl)) ?_; simp only [Act.put, List.setIfInBounds_toArray, List.set_cons_succ, List.set_cons_zero, Nat.reduceAdd, Nat.zero_add]))
      refine wpL_nil fun w' hE hK => hF.out _ _ ?_
      clear hK
      have HBR := Lib.hid (Bel.trans _ _ _ HBR.out hE)
      clear hE
      simp only [IntKind.wrap_u32, wv_xor, wv_and, wv_or, wv_add, maj_eq]
      obtain ⟨q, hq⟩ : ∃ q, (rotr a1 2 ^^^ rotr a1 13 ^^^ rotr a1 22) + maj a1 b1 c1 = q := ⟨_, rfl⟩
      rw [hq]
      have HQ := Lib.hid hq
      clear hq
      have R7 := Lib.hid (R7.out.bel HBR.out)
      have hc0 : _ = some (Value.int .u32 (wv a1)) := R7.out.w32 (i := 0) (by simp)
      have hc1 : _ = some (Value.int .u32 (wv b1)) := R7.out.w32 (i := 1) (by simp)
      have hc2 : _ = some (Value.int .u32 (wv c1)) := R7.out.w32 (i := 2) (by simp)
      have hc3 : _ = some (Value.int .u32 (wv d1)) := R7.out.w32 (i := 3) (by simp)
      have hc4 : _ = some (Value.int .u32 (wv e1)) := R7.out.w32 (i := 4) (by simp)
      have hc5 : _ = some (Value.int .u32 (wv f1)) := R7.out.w32 (i := 5) (by simp)
      have hc6 : _ = some (Value.int .u32 (wv g1)) := R7.out.w32 (i := 6) (by simp)
      go_wp2_with (first
        | (clear hc0 hc1 hc2 hc3 hc4 hc5 hc6; refine wpList_store_arr (cells := u32s [p + q, a1, b1, c1, d1 + p, e1, f1, g1]) rfl rfl rfl (by rfl) R7.out (size_of w8_info) rfl (u32s_one _) ?_; intro w11 r11 hu11))
      refine ⟨⟨t + 1, by go_num, by omega, ?_, (R2.out.bel HBR.out).upd hu11 (by omega), (R4.out.bel HBR.out).upd hu11 (by omega), (R5.out.bel HBR.out).upd hu11 (by omega), (R6.out.bel HBR.out).upd hu11 (by omega), below_upd (below_bel HB.out HBR.out HB.out.size) hu11 (by omega)⟩, by simp [intOf]; omega⟩
      rw [rounds, HS.out, HNN.out, HX.out]
      have e : (rnd ⟨a1, b1, c1, d1, e1, f1, g1, z1⟩ n x).list = [p + q, a1, b1, c1, d1 + p, e1, f1, g1] := by
        rw [← HP.out, ← HQ.out]; rfl
      rw [e]; exact r11
    · obtain rfl : t = 64 := by omega
      have hs8 : s.list.length = 8 := rfl
      obtain ⟨L, hL⟩ : ∃ L, s.list = L := ⟨_, rfl⟩
      rw [hL] at r7 hs8
      have hLL : (rounds b (stOf h) 64).list = L := by rw [hs, hL]
      have HLL := Lib.hid hLL
      have R7 := Lib.hid r7
      rw [HH0.out] at r2
      clear hs hL r7 hbr r4 r5 r6 HS hLL R5 R6
      have hszh : (Tryd.prog.info? 23).map (·.size) = some (u32s h).size := (size_of w8_info).trans (by rw [u32s_size, hh])
      have q2 := R2.out.lt
      have q4 := R4.out.lt
      have q7 := R7.out.lt
      rw [HH0.out] at R2
      go_wp2_with (first
        | (refine wpList_load_arr rfl rfl rfl r2 w8_und hszh ?_)
        | (refine wpList_alloc_arr rfl rfl hz8.out ?_; intro g9 w12 hg9 r9 hb12)
        | (refine wpList_store_arr rfl rfl rfl rfl r9 hszh (by rw [HZ8.out, u32s_size, u32s_size, hh]; rfl) (u32s_one _) ?_; intro w13 r13 hu13))
      have hb13 := below_upd (below_bel HB.out hb12 HB.out.size) hu13 (by have := HB.out.size; omega)
      have R2 := Lib.hid ((R2.out.bel hb12).upd hu13 (by omega))
      have R4 := Lib.hid ((R4.out.bel hb12).upd hu13 (by omega))
      have R7 := Lib.hid ((R7.out.bel hb12).upd hu13 (by omega))
      have hwg9 : w.heap.size ≤ g9 := by have := HB.out.size; omega
      have HB := Lib.hid hb13
      have R9 := Lib.hid r13
      clear hb13 hu13 hb12 r9 r2 r13
      try simp only [show ((64 : Nat) : Int) = 64 from rfl]
      go_loopw [14] (fun i wr2 => ∃ t : Nat, i = .int .i64 t ∧ t ≤ 8 ∧ Row wr2 g9 23 (u32s (acc h L t)) ∧ Row wr2 g2 23 (u32s h) ∧ Row wr2 g4 23 Z8 ∧ Row wr2 g7 23 (u32s L) ∧ Below w.heap.size w wr2) (fun i _ => 8 - (intOf i).toNat)
      case atStart => exact ⟨0, rfl, by omega, by rw [acc_zero h L hh]; exact R9.out, R2.out, R4.out, R7.out, HB.out⟩
      case round =>
        clear R2 R4 R7 R9 HB hlt
        obtain ⟨t, rfl, ht, r9, r2, r4, r7, hb'⟩ := hrel
        have R2 := Lib.hid r2
        have R4 := Lib.hid r4
        have R7 := Lib.hid r7
        have R9 := Lib.hid r9
        have HB := Lib.hid hb'
        clear r2 r4 r7 r9 hb'
        by_cases hlt : t < 8
        · have hlt' : (t : Int) < 8 := by omega
          obtain ⟨n, hn⟩ : ∃ n, L.getD t 0 = n := ⟨_, rfl⟩
          obtain ⟨x, hx⟩ : ∃ n, h.getD t 0 = n := ⟨_, rfl⟩
          have HNN := Lib.hid hn
          have HX := Lib.hid hx
          clear hn hx
          go_wp2
          try simp only [Act.put, List.setIfInBounds_toArray, List.set_cons_succ, List.set_cons_zero, Nat.reduceAdd, Nat.zero_add]
          refine wp_region_T 9 [] (by kernel_rfl) (by kernel_rfl) ?_
          intro ops F w0 pl hops hpl hw0 hF
          have hw0' := hw0.out
          subst hw0'
          simp only [List.take_succ_cons, List.take_zero, List.drop_succ_cons, List.drop_zero] at hF ⊢
          repeat (first | (refine wpL_pure (by first | rfl | (rw [hops.out]; rfl)) (by rw [hpl.out]; rfl) ?_ (fun wq hE hK => ?_) ?_; rotate_left; (clear hE hK; go_simp; rfl); (simp only [Act.put, List.setIfInBounds_toArray, List.set_cons_succ, List.set_cons_zero, Nat.reduceAdd, Nat.zero_add])) | (refine wpL_skip (by first | rfl | (rw [hops.out]; rfl)) ?_; simp only [Act.put, List.setIfInBounds_toArray, List.set_cons_succ, List.set_cons_zero, Nat.reduceAdd, Nat.zero_add]))
          refine wpL_pure (by first | rfl | (rw [hops.out]; rfl)) (by rw [hpl.out]; rfl) ?_ (fun wq hE hK => ?_) ?_
          rotate_left
          · have hc := (R2.out.bel hE).w32 (i := t) (by omega)
            rw [HX.out] at hc
            clear hE hK
            go_simp
            rfl
          simp only [Act.put, List.setIfInBounds_toArray, List.set_cons_succ, List.set_cons_zero, Nat.reduceAdd, Nat.zero_add]
          repeat (first | (refine wpL_pure (by first | rfl | (rw [hops.out]; rfl)) (by rw [hpl.out]; rfl) ?_ (fun wq hE hK => ?_) ?_; rotate_left; (clear hE hK; go_simp; rfl); (simp only [Act.put, List.setIfInBounds_toArray, List.set_cons_succ, List.set_cons_zero, Nat.reduceAdd, Nat.zero_add])) | (refine wpL_skip (by first | rfl | (rw [hops.out]; rfl)) ?_; simp only [Act.put, List.setIfInBounds_toArray, List.set_cons_succ, List.set_cons_zero, Nat.reduceAdd, Nat.zero_add]))
          refine wpL_pure (by first | rfl | (rw [hops.out]; rfl)) (by rw [hpl.out]; rfl) ?_ (fun wq hE hK => ?_) ?_
          rotate_left
          · have hc := (R7.out.bel hE).w32 (i := t) (by omega)
            rw [HNN.out] at hc
            clear hE hK
            go_simp
            rfl
          simp only [Act.put, List.setIfInBounds_toArray, List.set_cons_succ, List.set_cons_zero, Nat.reduceAdd, Nat.zero_add]
          repeat (first | (refine wpL_pure (by first | rfl | (rw [hops.out]; rfl)) (by rw [hpl.out]; rfl) ?_ (fun wq hE hK => ?_) ?_; rotate_left; (clear hE hK; go_simp; rfl); (simp only [Act.put, List.setIfInBounds_toArray, List.set_cons_succ, List.set_cons_zero, Nat.reduceAdd, Nat.zero_add])) | (refine wpL_skip (by first | rfl | (rw [hops.out]; rfl)) ?_; simp only [Act.put, List.setIfInBounds_toArray, List.set_cons_succ, List.set_cons_zero, Nat.reduceAdd, Nat.zero_add]))
          refine wpL_nil fun w' hE hK => hF.out _ _ ?_
          clear hK
          have r9 := R9.out.bel hE
          refine wpList_store_cell (v := .int .u32 (wv (x + n))) rfl rfl rfl (by simp only [IntKind.wrap_u32, wv_add]; rfl) rfl r9 u32_one (by rw [u32s_size, acc_len]; omega) ?_
          intro w8' r8 hu8
          go_wp2
          refine ⟨⟨t + 1, by go_num, by omega, ?_, (R2.out.bel hE).upd hu8 (by omega), (R4.out.bel hE).upd hu8 (by omega), (R7.out.bel hE).upd hu8 (by omega), below_upd (below_bel HB.out hE HB.out.size) hu8 (by omega)⟩, by simp [intOf]; omega⟩
          rw [acc_succ h L t hlt, ← u32s_set, HX.out, HNN.out]
          simpa using r8
        · obtain rfl : t = 8 := by omega
          have hsz8 : (Tryd.prog.info? 23).map (·.size) = some (u32s (acc h L 8)).size := (size_of w8_info).trans (by rw [u32s_size, acc_len])
          go_wp2_with (first
            | (refine wpList_load_arr rfl rfl rfl R9.out w8_und hsz8 ?_)
            | (refine wpList_store_arr rfl rfl rfl rfl R4.out hsz8 (by rw [HZ8.out, u32s_size, u32s_size, acc_len]; rfl) (u32s_one _) ?_; intro w14 r14 hu14))
          refine ret_arr rfl rfl r14 w8_und hsz8 ⟨?_, below_upd HB.out hu14 (by omega)⟩
          rw [acc_eight h L hh hs8, ← HLL.out]
          rfl
end
end Go.Proofs.YthdckgcalooipaaDoor
namespace Go.Proofs.YthdckgcalooipaaDoor
section
open Go.RowKit
/-- Package variables, by their blocks, and the cells that these hold. -/
def globs : List (Nat × List Value) := [(0, nums.map fun x => .int .u32 (wv x))]
end
end Go.Proofs.YthdckgcalooipaaDoor
namespace Go.Proofs.YthdckgcalooipaaDoor
section
open Go.RowKit
set_option linter.unusedVariables false
set_option linter.unusedSimpArgs false

/-- A value as it reads: slices that nobody writes any more (sl), rows of one's own (row), pointers into memory of one's own (ptr) and into memory that nobody writes (ip). -/
inductive AV where
  | junk
  | lit (x : Value)
  | agg (cs : List AV)
  | arr (sz n : Nat) (f : Nat → List AV)
  | tup (vs : List AV)
  | sl (sz n : Nat) (t : Bool) (f : Nat → List AV)
  | row (i sz off n : Nat) (cap : Option Nat)
  | ptr (i sz k o : Nat)
  | ip (cs : List AV)
  | fn (f : Fn) (first captured : List AV)
  | iface (t : TypeId) (v : AV)

/-- Where an object of one's own lies: nowhere yet (a nil row), or in a block, with so many elements. -/
abbrev Loc := Option (Nat × Nat)
abbrev Mu := Nat → Option Loc
def noMu : Mu := fun _ => none
/-- The first k alone. -/
def upto (k : Nat) (μ : Mu) : Mu := fun i => if i < k then μ i else none
theorem upto_le (k : Nat) (μ : Mu) : ∀ i l, upto k μ i = some l → μ i = some l := fun i l h => by
  unfold upto at h
  split at h
  · exact h
  · cases h
theorem upto_mono {k : Nat} {μ μ' : Mu} (h : ∀ i l, μ i = some l → μ' i = some l) : ∀ i l, upto k μ i = some l → upto k μ' i = some l := fun i l hi => by
  unfold upto at *
  split at hi
  · rename_i hlt; rw [if_pos hlt]; exact h i l hi
  · cases hi
theorem upto_all {k : Nat} {μ : Mu} (h : ∀ i l, μ i = some l → i < k) : upto k μ = μ := by
  funext i
  unfold upto
  split
  · rfl
  · rename_i hn
    cases hm : μ i with
    | none => rfl
    | some l => exact (hn (h i l hm)).elim

inductive RV (O : Nat → Prop) (w : World) : Mu → AV → Value → Prop
  | junk {μ} (v : Value) : RV O w μ .junk v
  | lit {μ} (x : Value) : RV O w μ (.lit x) x
  | agg {μ} {cs : List AV} {vs : List Value} (h1 : cs.length = vs.length) (h : ∀ (j : Nat) a v, cs[j]? = some a → vs[j]? = some v → RV O w μ a v) : RV O w μ (.agg cs) (.agg vs.toArray)
  | arr {μ} {sz n : Nat} {f : Nat → List AV} {vs : List Value} (hone : ∀ u ∈ vs, u.oneCell' = true) (h1 : vs.length = n * sz) (h2 : ∀ k, k < n → (f k).length = sz)
      (h : ∀ (k j : Nat) a v, k < n → (f k)[j]? = some a → vs[k * sz + j]? = some v → RV O w noMu a v) : RV O w μ (.arr sz n f) (.agg vs.toArray)
  | tup {μ} {cs : List AV} {vs : List Value} (h1 : cs.length = vs.length) (h : ∀ (j : Nat) a v, cs[j]? = some a → vs[j]? = some v → RV O w μ a v) : RV O w μ (.tup cs) (.tuple vs.toArray)
  | sl {μ} {sz n : Nat} {t : Bool} {f : Nat → List AV} {A : Option Addr} {c : Nat} {vs : List Value} (hone : ∀ u ∈ vs, u.oneCell' = true) (hc : n ≤ c) (hm : c ≤ maxLen) (ht : t = true → c = n) (h1 : vs.length = n * sz) (h2 : ∀ k, k < n → (f k).length = sz)
      (h : ∀ (k j : Nat) a v, k < n → (f k)[j]? = some a → vs[k * sz + j]? = some v → RV O w noMu a v) (hz : 0 < sz)
      (hA : n ≠ 0 → ∃ g o, A = some ⟨g, o, none⟩ ∧ ¬ O g ∧ ∀ j u, vs[j]? = some u → w.cell? ⟨g, o + j, none⟩ = some u) : RV O w μ (.sl sz n t f) (.slice A n c)
  | rowNil {μ : Mu} {i sz : Nat} {cap : Option Nat} (h : μ i = some none) (hc : cap = none ∨ cap = some 0) : RV O w μ (.row i sz 0 0 cap) (.slice none 0 0)
  | row {μ : Mu} {i sz off n b m c : Nat} {cap : Option Nat} (h : μ i = some (some (b, m))) (hn : n ≤ c) (hc : off + c ≤ m) (hcap : ∀ q, cap = some q → c = q) (hend : cap = none → off + c = m) : RV O w μ (.row i sz off n cap) (.slice (some ⟨b, off * sz, none⟩) n c)
  | rowE {μ : Mu} {i sz off b m o : Nat} {cap : Option Nat} (h : μ i = some (some (b, m))) (hcap : cap = none ∨ cap = some 0) (hoff : off ≠ 0) : RV O w μ (.row i sz off 0 cap) (.slice (some ⟨b, o, none⟩) 0 0)
  | ptr {μ : Mu} {i sz k o b m : Nat} (h : μ i = some (some (b, m))) : RV O w μ (.ptr i sz k o) (.pointer (some ⟨b, k * sz + o, none⟩))
  | ip {μ} {cs : List AV} {g o : Nat} {vs : List Value} (h1 : cs.length = vs.length) (h : ∀ (j : Nat) a v, cs[j]? = some a → vs[j]? = some v → RV O w noMu a v) (hg : ¬ O g) (hl : g < w.heap.size)
      (hA : ∀ j u, vs[j]? = some u → w.cell? ⟨g, o + j, none⟩ = some u) : RV O w μ (.ip cs) (.pointer (some ⟨g, o, none⟩))
  | fn {μ} {f : Fn} {cs ds : List AV} {vs us : List Value} (h1 : cs.length = vs.length) (h : ∀ (j : Nat) a v, cs[j]? = some a → vs[j]? = some v → RV O w μ a v) (h2 : ds.length = us.length)
      (h' : ∀ (j : Nat) a v, ds[j]? = some a → us[j]? = some v → RV O w μ a v) : RV O w μ (.fn f cs ds) (.func f vs.toArray us.toArray)
  | iface {μ} {t : TypeId} {a : AV} {v : Value} (h : RV O w μ a v) : RV O w μ (.iface t a) (.iface t v)

def RVs (O : Nat → Prop) (w : World) (μ : Mu) (cs : List AV) (vs : List Value) : Prop := cs.length = vs.length ∧ ∀ (j : Nat) a v, cs[j]? = some a → vs[j]? = some v → RV O w μ a v

section
variable {O O' : Nat → Prop} {w w' : World}
/-- What was known stays known: where cells that were not written stay as they were, and no more of them may be written. -/
theorem RV.monoC (hO : ∀ b, b < w.heap.size → O' b → O b) (hs : w.heap.size ≤ w'.heap.size) (hw : ∀ b, b < w.heap.size → ¬ O b → ∀ o u, w.cell? ⟨b, o, none⟩ = some u → w'.cell? ⟨b, o, none⟩ = some u) {μ : Mu} {a : AV} {v : Value} (h : RV O w μ a v) :
    ∀ μ' : Mu, (∀ i l, μ i = some l → μ' i = some l) → RV O' w' μ' a v := by
  have cell : ∀ g o u, ¬ O g → w.cell? ⟨g, o, none⟩ = some u → ¬ O' g ∧ w'.cell? ⟨g, o, none⟩ = some u := by
    intro g o u hg hc
    have hlt := World.block_lt_of_cell? w _ hc
    exact ⟨fun h => hg (hO g hlt h), hw g hlt hg o u hc⟩
  induction h with
  | junk v => exact fun _ _ => .junk v
  | lit x => exact fun _ _ => .lit x
  | agg h1 h ih => exact fun μ' hμ => .agg h1 fun j a v ha hv => ih j a v ha hv μ' hμ
  | arr ho h1 h2 h ih => exact fun μ' hμ => .arr ho h1 h2 fun k j a v hk ha hv => ih k j a v hk ha hv noMu fun _ _ h => h
  | tup h1 h ih => exact fun μ' hμ => .tup h1 fun j a v ha hv => ih j a v ha hv μ' hμ
  | sl ho hc hm ht h1 h2 h hz hA ih =>
    refine fun μ' hμ => .sl ho hc hm ht h1 h2 (fun k j a v hk ha hv => ih k j a v hk ha hv noMu fun _ _ h => h) hz fun hn => ?_
    obtain ⟨g, o, rfl, hg, hcell⟩ := hA hn
    rename_i vs
    have h0 : 0 < vs.length := by rw [h1]; exact Nat.mul_pos (Nat.pos_of_ne_zero hn) hz
    exact ⟨g, o, rfl, (cell g _ _ hg (hcell 0 _ (List.getElem?_eq_getElem h0))).1, fun j u hu => (cell g _ _ hg (hcell j u hu)).2⟩
  | rowNil h hc => exact fun μ' hμ => .rowNil (hμ _ _ h) hc
  | row h hn hc hcap he => exact fun μ' hμ => .row (hμ _ _ h) hn hc hcap he
  | rowE h hc ho => exact fun μ' hμ => .rowE (hμ _ _ h) hc ho
  | ptr h => exact fun μ' hμ => .ptr (hμ _ _ h)
  | ip h1 h hg hl hA ih =>
    refine fun μ' hμ => .ip h1 (fun j a v ha hv => ih j a v ha hv noMu fun _ _ h => h) (fun h => hg (hO _ hl h)) (Nat.lt_of_lt_of_le hl hs) fun j u hu => (cell _ _ _ hg (hA j u hu)).2
  | fn h1 h h2 h' ih ih' => exact fun μ' hμ => .fn h1 (fun j a v ha hv => ih j a v ha hv μ' hμ) h2 fun j a v ha hv => ih' j a v ha hv μ' hμ
  | iface h ih => exact fun μ' hμ => .iface (ih μ' hμ)
/-- What was known stays known: where blocks that were not written stay as they were, and no more of them may be written. -/
theorem RV.mono (hO : ∀ b, b < w.heap.size → O' b → O b) (hw : ∀ b, b < w.heap.size → ¬ O b → w'.heap[b]? = w.heap[b]?) {μ : Mu} {a : AV} {v : Value} (h : RV O w μ a v) :
    ∀ μ' : Mu, (∀ i l, μ i = some l → μ' i = some l) → RV O' w' μ' a v := by
  have cell : ∀ g o u, ¬ O g → w.cell? ⟨g, o, none⟩ = some u → ¬ O' g ∧ w'.cell? ⟨g, o, none⟩ = some u ∧ g < w'.heap.size := by
    intro g o u hg hc
    have hlt := World.block_lt_of_cell? w _ hc
    have he := hw g hlt hg
    refine ⟨fun h => hg (hO g hlt h), (World.cell?_of_block (w := w) he).trans hc, ?_⟩
    have : w'.heap[g]? = some w.heap[g] := by rw [he]; exact Array.getElem?_eq_getElem hlt
    exact (Array.getElem?_eq_some_iff.1 this).1
  induction h with
  | junk v => exact fun _ _ => .junk v
  | lit x => exact fun _ _ => .lit x
  | agg h1 h ih => exact fun μ' hμ => .agg h1 fun j a v ha hv => ih j a v ha hv μ' hμ
  | arr ho h1 h2 h ih => exact fun μ' hμ => .arr ho h1 h2 fun k j a v hk ha hv => ih k j a v hk ha hv noMu fun _ _ h => h
  | tup h1 h ih => exact fun μ' hμ => .tup h1 fun j a v ha hv => ih j a v ha hv μ' hμ
  | sl ho hc hm ht h1 h2 h hz hA ih =>
    refine fun μ' hμ => .sl ho hc hm ht h1 h2 (fun k j a v hk ha hv => ih k j a v hk ha hv noMu fun _ _ h => h) hz fun hn => ?_
    obtain ⟨g, o, rfl, hg, hcell⟩ := hA hn
    rename_i vs
    have h0 : 0 < vs.length := by rw [h1]; exact Nat.mul_pos (Nat.pos_of_ne_zero hn) hz
    exact ⟨g, o, rfl, (cell g _ _ hg (hcell 0 _ (List.getElem?_eq_getElem h0))).1, fun j u hu => (cell g _ _ hg (hcell j u hu)).2.1⟩
  | rowNil h hc => exact fun μ' hμ => .rowNil (hμ _ _ h) hc
  | row h hn hc hcap he => exact fun μ' hμ => .row (hμ _ _ h) hn hc hcap he
  | rowE h hc ho => exact fun μ' hμ => .rowE (hμ _ _ h) hc ho
  | ptr h => exact fun μ' hμ => .ptr (hμ _ _ h)
  | ip h1 h hg hl hA ih =>
    refine fun μ' hμ => .ip h1 (fun j a v ha hv => ih j a v ha hv noMu fun _ _ h => h) (fun h => hg (hO _ hl h)) ?_ fun j u hu => (cell _ _ _ hg (hA j u hu)).2.1
    have he := hw _ hl hg
    exact (Array.getElem?_eq_some_iff.1 (he.trans (Array.getElem?_eq_getElem hl))).1
  | fn h1 h h2 h' ih ih' => exact fun μ' hμ => .fn h1 (fun j a v ha hv => ih j a v ha hv μ' hμ) h2 fun j a v ha hv => ih' j a v ha hv μ' hμ
  | iface h ih => exact fun μ' hμ => .iface (ih μ' hμ)
theorem RV.up {μ : Mu} {a : AV} {v : Value} (h : RV O w noMu a v) : RV O w μ a v := h.mono (fun _ _ h => h) (fun _ _ _ => rfl) _ fun i l h => by cases h
theorem RVs.mono (hO : ∀ b, b < w.heap.size → O' b → O b) (hw : ∀ b, b < w.heap.size → ¬ O b → w'.heap[b]? = w.heap[b]?) {μ μ' : Mu} {a : List AV} {v : List Value} (h : RVs O w μ a v)
    (hμ : ∀ i l, μ i = some l → μ' i = some l) : RVs O' w' μ' a v := ⟨h.1, fun j a v ha hv => (h.2 j a v ha hv).mono hO hw _ hμ⟩
theorem RVs.nil {μ : Mu} : RVs O w μ [] [] := ⟨rfl, fun j a v h => by simp at h⟩
theorem RVs.cons {μ : Mu} {a : AV} {v : Value} {cs : List AV} {vs : List Value} (h : RV O w μ a v) (hs : RVs O w μ cs vs) : RVs O w μ (a :: cs) (v :: vs) :=
  ⟨by simp [hs.1], fun j x y hx hy => by
    cases j with
    | zero => simp at hx hy; subst hx hy; exact h
    | succ j => simp at hx hy; exact hs.2 j x y hx hy⟩
theorem RVs.uncons {μ : Mu} {a : AV} {cs : List AV} {vs : List Value} (h : RVs O w μ (a :: cs) vs) : ∃ v us, vs = v :: us ∧ RV O w μ a v ∧ RVs O w μ cs us := by
  obtain ⟨h1, h2⟩ := h
  cases vs with
  | nil => simp at h1
  | cons v us => exact ⟨v, us, rfl, h2 0 a v rfl rfl, by simpa using h1, fun j x y hx hy => h2 (j + 1) x y (by simpa using hx) (by simpa using hy)⟩
theorem RVs.unnil {μ : Mu} {vs : List Value} (h : RVs O w μ [] vs) : vs = [] := by
  obtain ⟨h1, _⟩ := h
  cases vs with
  | nil => rfl
  | cons => simp at h1
theorem RVs.drop {μ : Mu} {cs : List AV} {vs : List Value} (h : RVs O w μ cs vs) (k : Nat) : RVs O w μ (cs.drop k) (vs.drop k) :=
  ⟨by simp [h.1], fun j a v ha hv => h.2 (k + j) a v (by simpa using ha) (by simpa using hv)⟩
theorem RVs.take {μ : Mu} {cs : List AV} {vs : List Value} (h : RVs O w μ cs vs) (k : Nat) : RVs O w μ (cs.take k) (vs.take k) :=
  ⟨by simp [h.1], fun j a v ha hv => by
    rw [List.getElem?_take] at ha hv
    split at ha
    · rename_i hlt; rw [if_pos hlt] at hv; exact h.2 j a v ha hv
    · cases ha⟩
theorem RVs.append {μ : Mu} {cs ds : List AV} {vs us : List Value} (h : RVs O w μ cs vs) (h' : RVs O w μ ds us) : RVs O w μ (cs ++ ds) (vs ++ us) :=
  ⟨by simp [h.1, h'.1], fun j a v ha hv => by
    rw [List.getElem?_append] at ha hv
    rw [h.1] at ha
    split at ha
    · rename_i hlt; rw [if_pos hlt] at hv; exact h.2 j a v ha hv
    · rename_i hlt; rw [if_neg hlt] at hv; exact h'.2 _ a v ha hv⟩
theorem RVs.at_ {μ : Mu} {cs : List AV} {vs : List Value} (h : RVs O w μ cs vs) {j : Nat} {a : AV} (ha : cs[j]? = some a) : ∃ v, vs[j]? = some v ∧ RV O w μ a v := by
  have hlt : j < vs.length := by rw [← h.1]; exact (List.getElem?_eq_some_iff.1 ha).1
  exact ⟨_, List.getElem?_eq_getElem hlt, h.2 j a _ ha (List.getElem?_eq_getElem hlt)⟩
end

/-! memory of one's own -/
structure AObj where
  T : TypeId
  sz : Nat
  n : Nat
  f : Nat → List AV
  st : Nat := 0
  pure : Bool := true
  box : Bool := false

def OO (X : Nat → Prop) (H : List AObj) (μ : Mu) (b : Nat) : Prop := X b ∨ ∃ i o m, H[i]? = some o ∧ o.st = 0 ∧ μ i = some (some (b, m))
/-- The cells of block b are the object o's. -/
structure ObjIn (O : Nat → Prop) (w : World) (μ : Mu) (b m : Nat) (o : AObj) (cur : Array Value) : Prop where
  blk : w.heap[b]? = some (.cells cur o.T (0, 0))
  size : cur.size = m * o.sz
  le : m ≤ maxLen
  nle : o.n ≤ m
  one : ∀ (k j : Nat) v, k < o.n → j < o.sz → cur[k * o.sz + j]? = some v → v.oneCell' = true
  flen : ∀ k, k < o.n → (o.f k).length = o.sz
  cell : ∀ (k j : Nat) a v, k < o.n → (o.f k)[j]? = some a → cur[k * o.sz + j]? = some v → RV O w (if o.pure then noMu else μ) a v
def ObjAt (O : Nat → Prop) (w : World) (μ : Mu) (i : Nat) (o : AObj) : Prop :=
  0 < o.sz ∧ ((μ i = some none ∧ o.n = 0) ∨ ∃ b m cur, μ i = some (some (b, m)) ∧ ObjIn O w μ b m o cur)
/-- The tables lie where they lie, and nobody writes them. -/
def GlobOk (X : Nat → Prop) (μ : Mu) (w : World) : Prop := ∀ g cs, (g, cs) ∈ globs → g < w.heap.size ∧ ¬ X g ∧ (∀ i m, μ i ≠ some (some (g, m))) ∧ ∀ (j : Nat) u, cs[j]? = some u → w.cell? ⟨g, j, none⟩ = some u
theorem GlobOk.stepC {X X' : Nat → Prop} {μ μ' : Mu} {w w' : World} (h : GlobOk X μ w) (hs : w.heap.size ≤ w'.heap.size) (hb : ∀ b, b < w.heap.size → ¬ X b → (∀ i m, μ i ≠ some (some (b, m))) → ∀ o u, w.cell? ⟨b, o, none⟩ = some u → w'.cell? ⟨b, o, none⟩ = some u)
    (hX : ∀ b, X' b → X b ∨ (∃ i m, μ i = some (some (b, m))) ∨ w.heap.size ≤ b) (hμ : ∀ i b m, μ' i = some (some (b, m)) → (∃ j m', μ j = some (some (b, m'))) ∨ X b ∨ w.heap.size ≤ b) : GlobOk X' μ' w' := fun g cs hg => by
  obtain ⟨h1, h2, h3, h4⟩ := h g cs hg
  refine ⟨by omega, fun hx => ?_, fun i m hi => ?_, fun j u hu => hb g h1 h2 h3 j u (h4 j u hu)⟩
  · rcases hX g hx with h | ⟨i, m, hi⟩ | h
    · exact h2 h
    · exact h3 i m hi
    · omega
  · rcases hμ i g m hi with ⟨j, m', hj⟩ | h | h
    · exact h3 j m' hj
    · exact h2 h
    · omega
theorem GlobOk.step {X X' : Nat → Prop} {μ μ' : Mu} {w w' : World} (h : GlobOk X μ w) (hs : w.heap.size ≤ w'.heap.size) (hb : ∀ b, b < w.heap.size → ¬ X b → (∀ i m, μ i ≠ some (some (b, m))) → w'.heap[b]? = w.heap[b]?)
    (hX : ∀ b, X' b → X b ∨ (∃ i m, μ i = some (some (b, m))) ∨ w.heap.size ≤ b) (hμ : ∀ i b m, μ' i = some (some (b, m)) → (∃ j m', μ j = some (some (b, m'))) ∨ X b ∨ w.heap.size ≤ b) : GlobOk X' μ' w' :=
  h.stepC hs (fun b h1 h2 h3 o u hu => (World.cell?_of_block (w := w) (hb b h1 h2 h3)).trans hu) hX hμ
theorem GlobOk.sub {X : Nat → Prop} {μ μ' : Mu} {w : World} (h : GlobOk X μ w) (hμ : ∀ b, (∃ i m, μ' i = some (some (b, m))) → ∃ i m, μ i = some (some (b, m))) : GlobOk X μ' w :=
  h.stepC (Nat.le_refl _) (fun _ _ _ _ _ _ hu => hu) (fun _ h => .inl h) fun i b m hi => .inl (hμ b ⟨i, m, hi⟩)
structure HRel (μ : Mu) (X : Nat → Prop) (H : List AObj) (w : World) : Prop where
  dom : ∀ i l, μ i = some l → i < H.length
  inj : ∀ i j b m m', μ i = some (some (b, m)) → μ j = some (some (b, m')) → i = j
  lt : ∀ i b m, μ i = some (some (b, m)) → b < w.heap.size ∧ ¬ X b
  obj : ∀ i o, H[i]? = some o → o.st < 2 → ObjAt (OO X H μ) w μ i o
  xlt : ∀ b, X b → b < w.heap.size
  gl : GlobOk X μ w
theorem HRel.glO {μ : Mu} {X : Nat → Prop} {H : List AObj} {w : World} (h : HRel μ X H w) : GlobOk (OO X H μ) noMu w :=
  h.gl.step (Nat.le_refl _) (fun _ _ _ _ => rfl) (fun b hb => hb.elim .inl fun ⟨i, o, m, _, _, hm⟩ => .inr (.inl ⟨i, m, hm⟩)) fun i b m h => (by cases h)

/-- From w to w' no block was written but those of one's own. -/
structure Chg (μ : Mu) (w w' : World) : Prop where
  os : w'.os = w.os
  tape : w'.tape = w.tape
  output : w'.output = w.output
  size : w.heap.size ≤ w'.heap.size
  block : ∀ k, k < w.heap.size → (∀ i m, μ i ≠ some (some (k, m))) → w'.heap[k]? = w.heap[k]?
/-- Blocks of one's own later on are such as were that, or new. -/
def Ext (μ : Mu) (w : World) (μ' : Mu) : Prop := ∀ i b m, μ' i = some (some (b, m)) → (∃ j m', μ j = some (some (b, m'))) ∨ w.heap.size ≤ b
theorem Chg.refl (μ : Mu) (w : World) : Chg μ w w := ⟨rfl, rfl, rfl, Nat.le_refl _, fun _ _ _ => rfl⟩
theorem Ext.refl (μ : Mu) (w : World) : Ext μ w μ := fun i b m h => .inl ⟨i, m, h⟩
theorem Chg.trans {μ μ' : Mu} {a b c : World} (h : Chg μ a b) (he : Ext μ a μ') (h' : Chg μ' b c) : Chg μ a c :=
  ⟨h'.os.trans h.os, h'.tape.trans h.tape, h'.output.trans h.output, Nat.le_trans h.size h'.size, fun k hk hn =>
    (h'.block k (Nat.lt_of_lt_of_le hk h.size) fun i m hi => by
      rcases he i k m hi with ⟨j, m', hj⟩ | hlt
      · exact hn j m' hj
      · omega).trans (h.block k hk hn)⟩
theorem Ext.trans {μ μ' μ'' : Mu} {a b : World} (hs : a.heap.size ≤ b.heap.size) (h : Ext μ a μ') (h' : Ext μ' b μ'') : Ext μ a μ'' := fun i x m hi => by
  rcases h' i x m hi with ⟨j, m', hj⟩ | hlt
  · exact h j x m' hj
  · exact .inr (by omega)
theorem Chg.below {w w' : World} (h : Chg noMu w w') : Below w.heap.size w w' := ⟨h.os, h.tape, h.output, h.size, fun k hk => h.block k hk fun i m hi => by cases hi⟩
theorem Chg.of_below {μ : Mu} {w w' : World} (h : Below w.heap.size w w') : Chg μ w w' := ⟨h.os, h.tape, h.output, h.size, fun k hk _ => h.block k hk⟩
theorem Chg.drew (μ : Mu) (w : World) : Chg μ w w.drew := ⟨rfl, rfl, rfl, Nat.le_refl _, fun _ _ _ => rfl⟩

section
variable {μ μ' : Mu} {X : Nat → Prop} {H H' : List AObj} {w w' : World}
theorem ObjAt.mono {O O' : Nat → Prop} {i : Nat} {o : AObj} (hO : ∀ b, b < w.heap.size → O' b → O b) (hw : ∀ b, b < w.heap.size → ¬ O b → w'.heap[b]? = w.heap[b]?) (hμ : ∀ i l, μ i = some l → μ' i = some l)
    (hb : ∀ b m, μ i = some (some (b, m)) → w'.heap[b]? = w.heap[b]?) (h : ObjAt O w μ i o) : ObjAt O' w' μ' i o := by
  refine ⟨h.1, ?_⟩
  rcases h.2 with ⟨h1, h2⟩ | ⟨b, m, cur, h1, h2⟩
  · exact .inl ⟨hμ _ _ h1, h2⟩
  · refine .inr ⟨b, m, cur, hμ _ _ h1, (hb b m h1).trans h2.blk, h2.size, h2.le, h2.nle, h2.one, h2.flen, fun k j a v hk ha hv => (h2.cell k j a v hk ha hv).mono hO hw _ fun i l hi => ?_⟩
    split
    · rename_i hp; rw [if_pos hp] at hi; exact hi
    · rename_i hp; rw [if_neg hp] at hi; exact hμ _ _ hi
/-- Only new blocks. -/
theorem HRel.below (h : HRel μ X H w) (hb : Below w.heap.size w w') : HRel μ X H w' :=
  ⟨h.dom, h.inj, fun i b m hi => ⟨Nat.lt_of_lt_of_le (h.lt i b m hi).1 hb.size, (h.lt i b m hi).2⟩, fun i o hi hs => (h.obj i o hi hs).mono (fun _ _ h => h) (fun b hlt _ => hb.block b hlt) (fun _ _ h => h) fun b m hm => hb.block b (h.lt i b m hm).1, fun b hx => Nat.lt_of_lt_of_le (h.xlt b hx) hb.size, h.gl.step hb.size (fun b hlt _ _ => hb.block b hlt) (fun _ h => .inl h) fun i b m h => .inl ⟨i, m, h⟩⟩
theorem ObjAt.monoC {O O' : Nat → Prop} {i : Nat} {o : AObj} (hO : ∀ b, b < w.heap.size → O' b → O b) (hs : w.heap.size ≤ w'.heap.size) (hw : ∀ b, b < w.heap.size → ¬ O b → ∀ o u, w.cell? ⟨b, o, none⟩ = some u → w'.cell? ⟨b, o, none⟩ = some u)
    (hb : ∀ b m, μ i = some (some (b, m)) → w'.heap[b]? = w.heap[b]?) (h : ObjAt O w μ i o) : ObjAt O' w' μ i o := by
  refine ⟨h.1, ?_⟩
  rcases h.2 with ⟨h1, h2⟩ | ⟨b, m, cur, h1, h2⟩
  · exact .inl ⟨h1, h2⟩
  · exact .inr ⟨b, m, cur, h1, (hb b m h1).trans h2.blk, h2.size, h2.le, h2.nle, h2.one, h2.flen, fun k j a v hk ha hv => (h2.cell k j a v hk ha hv).monoC hO hs hw _ fun i l hi => hi⟩
theorem RV.later {O : Nat → Prop} {a : AV} {v : Value} (h : RV O w μ a v) (hb : Below w.heap.size w w') : RV O w' μ a v := h.mono (fun _ _ h => h) (fun b hl _ => hb.block b hl) _ fun _ _ h => h
theorem RVs.later {O : Nat → Prop} {a : List AV} {v : List Value} (h : RVs O w μ a v) (hb : Below w.heap.size w w') : RVs O w' μ a v := h.mono (fun _ _ h => h) (fun b hl _ => hb.block b hl) fun _ _ h => h
end
end
end Go.Proofs.YthdckgcalooipaaDoor
namespace Go.Proofs.YthdckgcalooipaaDoor
section
open Go.RowKit
set_option linter.unusedVariables false
set_option linter.unusedSimpArgs false

inductive TyK where
  | int (k : IntKind) | bool | str | ptr (e : TypeId) | slice (e : TypeId) | arr (n : Nat) (e : TypeId) | struct (fs : List (Nat × TypeId)) | iface | map (k e : TypeId) | func | other
structure TyI where
  k : TyK
  sz : Nat
  by_ : Nat
  zero : List Value
abbrev Tab := TypeId → Option TyI
def TyK.isAgg : TyK → Bool
  | .arr _ _ | .struct _ => true
  | _ => false
def TyI.zeroCells (i : TyI) : List Value := match i.k with | .arr n _ => (List.replicate n i.zero).flatten | _ => i.zero
def mkV (i : TyI) (vs : List Value) : Value := if i.k.isAgg then .agg vs.toArray else vs.headD undef
def UndOk (P : Program) (t : TypeId) : TyK → Prop
  | .int k => P.underlying t = some (.int k)
  | .bool => P.underlying t = some .bool
  | .str => P.underlying t = some .string
  | .ptr e => P.underlying t = some (.pointer e)
  | .slice e => P.underlying t = some (.slice e)
  | .arr n e => P.underlying t = some (.array n e)
  | .struct fs => ∃ fields : Array Field, P.underlying t = some (.struct fields) ∧ fields.toList.map (fun f => (f.offset, f.type)) = fs
  | .iface => ∃ ms, P.underlying t = some (.interface ms)
  | .map k e => P.underlying t = some (.map k e)
  | .func => ∃ a b c, P.underlying t = some (.func a b c)
  | .other => ∃ d, P.underlying t = some d ∧ d.isRow = false
structure TyOk (P : Program) (t : TypeId) (i : TyI) : Prop where
  info : ∃ f, P.info? t = some f ∧ f.size = i.sz ∧ f.bytes = i.by_ ∧ ∃ z, f.zero = some z ∧ z.cells.toList = i.zeroCells
  one : i.k.isAgg = false → i.sz = 1
  zlen : i.zeroCells.length = i.sz
  zone : ∀ u ∈ i.zeroCells, u.oneCell' = true
  und : UndOk P t i.k
def TabOk (P : Program) (tab : Tab) : Prop := ∀ t i, tab t = some i → TyOk P t i

def zeq : Value → Value → Bool
  | .int k a, .int k' b => decide (k = k') && a == b
  | .bool a, .bool b => a == b
  | .string a, .string b => a.data.toList == b.data.toList
  | .pointer none, .pointer none => true
  | .slice none 0 0, .slice none 0 0 => true
  | .map none, .map none => true
  | .chan none, .chan none => true
  | .nilFunc, .nilFunc => true
  | .nilIface, .nilIface => true
  | _, _ => false
theorem zeq_eq {a b : Value} (h : zeq a b = true) : a = b := by
  unfold zeq at h
  split at h <;> simp_all
  rename_i a b
  cases a; cases b
  congr
def zeqs : List Value → List Value → Bool
  | [], [] => true
  | a :: x, b :: y => zeq a b && zeqs x y
  | _, _ => false
theorem zeqs_eq : ∀ {x y : List Value}, zeqs x y = true → x = y
  | [], [], _ => rfl
  | [], _ :: _, h => by cases h
  | _ :: _, [], h => by cases h
  | a :: x, b :: y, h => by
    simp only [zeqs, Bool.and_eq_true] at h
    rw [zeq_eq h.1, zeqs_eq h.2]
def undB (P : Program) (t : TypeId) : TyK → Bool
  | .int k => match P.underlying t with | some (.int k') => decide (k' = k) | _ => false
  | .bool => match P.underlying t with | some .bool => true | _ => false
  | .str => match P.underlying t with | some .string => true | _ => false
  | .ptr e => match P.underlying t with | some (.pointer e') => e' == e | _ => false
  | .slice e => match P.underlying t with | some (.slice e') => e' == e | _ => false
  | .arr n e => match P.underlying t with | some (.array n' e') => n' == n && e' == e | _ => false
  | .struct fs => match P.underlying t with | some (.struct fields) => (fields.toList.map fun f => (f.offset, f.type)) == fs | _ => false
  | .iface => match P.underlying t with | some (.interface _) => true | _ => false
  | .map k e => match P.underlying t with | some (.map k' e') => k' == k && e' == e | _ => false
  | .func => match P.underlying t with | some (.func _ _ _) => true | _ => false
  | .other => match P.underlying t with | some d => !d.isRow | none => false
theorem undB_ok {P : Program} {t : TypeId} {k : TyK} (h : undB P t k = true) : UndOk P t k := by
  cases k <;> simp only [undB] at h <;> simp only [UndOk] <;> split at h <;> simp_all
def tyB (P : Program) (t : TypeId) (i : TyI) : Bool :=
  (match P.info? t with
    | some f => f.size == i.sz && f.bytes == i.by_ && (match f.zero with | some z => zeqs z.cells.toList i.zeroCells | none => false)
    | none => false) && (i.k.isAgg || i.sz == 1) && i.zeroCells.length == i.sz && i.zeroCells.all (·.oneCell') && undB P t i.k
theorem tyB_ok {P : Program} {t : TypeId} {i : TyI} (h : tyB P t i = true) : TyOk P t i := by
  unfold tyB at h
  simp only [Bool.and_eq_true] at h
  obtain ⟨⟨⟨⟨h1, h2⟩, h3⟩, h4⟩, h5⟩ := h
  refine ⟨?_, fun hk => ?_, by simpa using h3, by simpa using h4, undB_ok h5⟩
  · split at h1
    · rename_i f hf
      simp only [Bool.and_eq_true, beq_iff_eq] at h1
      obtain ⟨⟨ha, hb⟩, hc⟩ := h1
      split at hc
      · rename_i z hz; exact ⟨f, hf, ha, hb, z, hz, zeqs_eq hc⟩
      · cases hc
    · cases h1
  · rw [hk] at h2; simpa using h2
def tabOf (l : List (TypeId × TyI)) : Tab := fun t => (l.find? fun p => Nat.beq p.1 t).map (·.2)
theorem tabOf_ok {P : Program} {l : List (TypeId × TyI)} (h : (l.all fun p => tyB P p.1 p.2) = true) : TabOk P (tabOf l) := by
  intro t i hi
  unfold tabOf at hi
  cases hf : l.find? fun p => Nat.beq p.1 t with
  | none => rw [hf] at hi; cases hi
  | some p =>
    rw [hf] at hi
    simp at hi
    subst hi
    have h1 := List.find?_some hf
    have h2 := List.mem_of_find?_eq_some hf
    have h3 := List.all_eq_true.1 h p h2
    have : p.1 = t := Nat.eq_of_beq_eq_true h1
    rw [← this]
    exact tyB_ok h3

section
variable {P : Program} {tab : Tab} {t : TypeId} {i : TyI} {w : World}
theorem TyOk.size (h : TyOk P t i) : (P.info? t).map (·.size) = some i.sz := by obtain ⟨f, hf, hs, _⟩ := h.info; rw [hf]; simp [hs]
theorem TyOk.run_size (h : TyOk P t i) : (sizeOf t).run P w = .ok i.sz w := by
  obtain ⟨f, hf, hs, _⟩ := h.info
  simp [sizeOf, typeInfo, hf, hs]
theorem TyOk.row (h : TyOk P t i) : ∃ d, P.underlying t = some d ∧ d.isRow = i.k.isAgg := by
  have hu := h.und
  cases hk : i.k <;> rw [hk] at hu <;> simp only [UndOk] at hu
  case struct fs => obtain ⟨fields, hf, _⟩ := hu; exact ⟨_, hf, rfl⟩
  case iface => obtain ⟨ms, hf⟩ := hu; exact ⟨_, hf, rfl⟩
  case func => obtain ⟨a, b, c, hf⟩ := hu; exact ⟨_, hf, rfl⟩
  case other => exact hu
  all_goals exact ⟨_, hu, rfl⟩
theorem TyOk.isAgg (h : TyOk P t i) : (isAgg t).run P w = .ok i.k.isAgg w := by
  obtain ⟨d, hd, he⟩ := h.row
  unfold Go.isAgg
  rw [Sem.run_bind, run_underlying hd w]
  rw [← he]
  cases d <;> rfl
theorem TyOk.zero (h : TyOk P t i) : ∃ z, (zeroValue t).run P w = .ok z w ∧ z.cells.toList = i.zeroCells := by
  obtain ⟨f, hf, _, _, z, hz, hc⟩ := h.info
  exact ⟨z, by simp [zeroValue, typeInfo, hf, hz], hc⟩
/-- The cells vs lie at b, o: a load gives them. -/
theorem run_load_cells (h : TyOk P t i) {b o : Nat} {vs : List Value} (hl : vs.length = i.sz) (hc : w.rangeAt b o vs) :
    (Instr.loadAt t (.pointer (some ⟨b, o, none⟩))).run P w = .ok (mkV i vs) w := by
  obtain ⟨d, hd, he⟩ := h.row
  unfold mkV
  by_cases hk : i.k.isAgg = true
  · rw [if_pos hk]
    exact run_loadAt_mid w b o t vs d hc hd (he.trans hk) (by rw [h.size, hl])
  · rw [if_neg hk]
    have hk : i.k.isAgg = false := by simpa using hk
    have h1 : vs.length = 1 := by rw [hl, h.one hk]
    obtain ⟨v, rfl⟩ : ∃ v, vs = [v] := by
      match vs, h1 with
      | [v], _ => exact ⟨v, rfl⟩
    have hcell := hc 0 v rfl
    simp only [Nat.add_zero] at hcell
    simp [Instr.loadAt, Instr.sureAddr, loadVar, h.isAgg, hk, run_load, hcell]
end

def mkT (tab : Tab) (i : TyI) (cs : List AV) : Option AV :=
  match i.k with
  | .struct _ => some (.agg cs)
  | .arr _ _ => some (.agg cs)
  | _ => match cs with | [a] => some a | _ => none
theorem mkT_rv {O : Nat → Prop} {w : World} {μ : Mu} {tab : Tab} {i : TyI} {cs : List AV} {vs : List Value} {r : AV} (h : mkT tab i cs = some r) (hr : RVs O w μ cs vs) : RV O w μ r (mkV i vs) := by
  unfold mkT at h
  unfold mkV
  cases hk : i.k <;> rw [hk] at h <;> simp only [TyK.isAgg] at h ⊢
  case struct fs => injection h with h; subst h; exact .agg hr.1 hr.2
  case arr => injection h with h; subst h; exact .agg hr.1 hr.2
  all_goals
    split at h
    · injection h with h
      subst h
      obtain ⟨v, us, rfl, h1, _⟩ := hr.uncons
      exact h1
    · cases h
def nth {α : Type} : List α → Nat → Option α
  | [], _ => none
  | x :: _, 0 => some x
  | _ :: l, n + 1 => nth l n
theorem nth_eq {α : Type} : ∀ (l : List α) (n : Nat), nth l n = l[n]?
  | [], _ => by simp [nth]
  | _ :: _, 0 => by simp [nth]
  | _ :: l, n + 1 => by simp [nth, nth_eq l n]
def setn {α : Type} : List α → Nat → α → List α
  | [], _, _ => []
  | _ :: l, 0, y => y :: l
  | x :: l, n + 1, y => x :: setn l n y
theorem setn_eq {α : Type} : ∀ (l : List α) (n : Nat) (y : α), setn l n y = l.set n y
  | [], _, _ => by simp [setn]
  | _ :: _, 0, _ => by simp [setn]
  | _ :: l, n + 1, y => by simp [setn, setn_eq l n y]
end
end Go.Proofs.YthdckgcalooipaaDoor
