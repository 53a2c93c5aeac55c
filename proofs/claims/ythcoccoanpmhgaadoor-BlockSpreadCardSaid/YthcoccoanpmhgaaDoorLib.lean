/- The words of memory that this seat's walks share: kinds of data, slices that read as lists, rows of the call's own. No program in sight. -/
import Derived.WalkKit
import Derived.WalkSpells
import Derived.WalkLawsBesides
import Derived.Below
import Derived.Maps.AppendAt
import Derived.Deep.Draws
import Derived.Deep.AppendLies
import Derived.RegionTactic
import Derived.OwnWalk
import Derived.Lib.Hide
import Derived.Laws.BitsAllLaws
import Derived.Laws.BitsLemmas
import Derived.Laws.IdiomStrings
import Derived.Laws.BytesArg
namespace Go.Proofs.YthcoccoanpmhgaaDoor
open Go.RowKit
set_option linter.unusedVariables false
set_option linter.unusedSimpArgs false

theorem drop_add {β : Type} (c r : List β) (m : Nat) : (c ++ r).drop (c.length + m) = r.drop m := by
  rw [List.drop_append, List.drop_eq_nil_of_le (Nat.le_add_right _ _), List.nil_append, Nat.add_sub_cancel_left]
theorem take_add {β : Type} (c r : List β) (m : Nat) : (c ++ r).take (c.length + m) = c ++ r.take m := by
  rw [List.take_append, List.take_of_length_le (Nat.le_add_right _ _), Nat.add_sub_cancel_left]
theorem ret_int {k : IntKind} {a b : Int} (h : a = b) : Ending.returned (.int k a) = .returned (.int k b) := by rw [h]
theorem addr_block (a : Addr) (n : Nat) : (a.add n).block = a.block := by unfold Addr.add; split <;> rfl
theorem addr_add (a : Addr) (i j : Nat) : (a.add i).add j = a.add (i + j) := by
  unfold Addr.add
  by_cases hi : i = 0 <;> by_cases hj : j = 0 <;> simp [hi, hj, Nat.add_assoc]

/-- All blocks of w but those of O are in w' as they were. -/
def Keeps (O : Nat → Prop) (w w' : World) : Prop := ∀ k, k < w.heap.size → ¬ O k → w'.heap[k]? = w.heap[k]?

/-- A kind of data: how many cells it has, and which cells stand for which datum, with no block of O among those that they lead to. -/
structure Kd (α : Type) where
  sz : Nat
  rel : World → (Nat → Prop) → α → List Value → Prop
  len : ∀ {w O x cs}, rel w O x cs → cs.length = sz
  one : ∀ {w O x cs}, rel w O x cs → ∀ u ∈ cs, u.oneCell' = true
  anti : ∀ {w O O' x cs}, (∀ k, O' k → O k) → rel w O x cs → rel w O' x cs
  more : ∀ {w O x cs}, rel w O x cs → rel w (fun k => O k ∨ w.heap.size ≤ k) x cs
  keep : ∀ {w w' O x cs}, Keeps O w w' → rel w O x cs → rel w' O x cs

/-- A row of data, cell by cell. -/
def Reps {α : Type} (d : Kd α) (w : World) (O : Nat → Prop) : List α → List Value → Prop
  | [], cs => cs = []
  | x :: xs, cs => ∃ c r, cs = c ++ r ∧ d.rel w O x c ∧ Reps d w O xs r

section
variable {α : Type} {d : Kd α} {w w' : World} {O O' : Nat → Prop} {xs ys : List α} {cs ds : List Value}
theorem Reps.imp_ {w w' : World} {O O' : Nat → Prop} (hf : ∀ x c, d.rel w O x c → d.rel w' O' x c) : ∀ {xs : List α} {cs : List Value}, Reps d w O xs cs → Reps d w' O' xs cs
  | [], _, h => h
  | _ :: _, _, ⟨c, r, e, h, hr⟩ => ⟨c, r, e, hf _ _ h, Reps.imp_ hf hr⟩
theorem Reps.len : ∀ {xs : List α} {cs : List Value}, Reps d w O xs cs → cs.length = xs.length * d.sz
  | [], cs, h => by rw [show cs = [] from h]; simp
  | x :: xs, cs, ⟨c, r, e, h, hr⟩ => by rw [e, List.length_append, d.len h, hr.len, List.length_cons, Nat.add_mul]; omega
theorem Reps.one : ∀ {xs : List α} {cs : List Value}, Reps d w O xs cs → ∀ u ∈ cs, u.oneCell' = true
  | [], cs, h, u, hu => by rw [show cs = [] from h] at hu; simp at hu
  | x :: xs, cs, ⟨c, r, e, h, hr⟩, u, hu => by
    rw [e, List.mem_append] at hu
    exact hu.elim (d.one h u) (hr.one u)
theorem Reps.anti (h : Reps d w O xs cs) (hO : ∀ k, O' k → O k) : Reps d w O' xs cs := h.imp_ fun _ _ => d.anti hO
theorem Reps.more (h : Reps d w O xs cs) : Reps d w (fun k => O k ∨ w.heap.size ≤ k) xs cs := h.imp_ fun _ _ => d.more
theorem Reps.keep (h : Reps d w O xs cs) (hk : Keeps O w w') : Reps d w' O xs cs := h.imp_ fun _ _ => d.keep hk
theorem Reps.append : ∀ {xs : List α} {cs : List Value}, Reps d w O xs cs → Reps d w O ys ds → Reps d w O (xs ++ ys) (cs ++ ds)
  | [], cs, h, h' => by rw [show cs = [] from h]; exact h'
  | x :: xs, cs, ⟨c, r, e, h, hr⟩, h' => ⟨c, r ++ ds, by rw [e, List.append_assoc], h, hr.append h'⟩
theorem Reps.single {x : α} {c : List Value} (h : d.rel w O x c) : Reps d w O [x] c := ⟨c, [], by simp, h, rfl⟩
theorem Reps.drop : ∀ {xs : List α} {cs : List Value} (k : Nat), Reps d w O xs cs → Reps d w O (xs.drop k) (cs.drop (k * d.sz))
  | xs, cs, 0, h => by simpa using h
  | [], cs, k + 1, h => by rw [show cs = [] from h]; exact (List.drop_nil)
  | x :: xs, cs, k + 1, ⟨c, r, e, h, hr⟩ => by
    have hc := d.len h
    rw [e, List.drop_succ_cons, show (k + 1) * d.sz = c.length + k * d.sz by rw [hc, Nat.add_mul]; omega, drop_add]
    exact hr.drop k
theorem Reps.take : ∀ {xs : List α} {cs : List Value} (k : Nat), Reps d w O xs cs → Reps d w O (xs.take k) (cs.take (k * d.sz))
  | xs, cs, 0, h => by simp [Reps]
  | [], cs, k + 1, h => by rw [show cs = [] from h]; exact (List.take_nil)
  | x :: xs, cs, k + 1, ⟨c, r, e, h, hr⟩ => by
    have hc := d.len h
    rw [e, List.take_succ_cons, show (k + 1) * d.sz = c.length + k * d.sz by rw [hc, Nat.add_mul]; omega, take_add]
    exact ⟨c, _, rfl, h, hr.take k⟩
theorem Reps.at_ {k : Nat} (h : Reps d w O xs cs) (hk : k < xs.length) : d.rel w O xs[k] ((cs.drop (k * d.sz)).take d.sz) := by
  have h1 := h.drop k
  rw [List.drop_eq_getElem_cons hk] at h1
  obtain ⟨c, r, e, h2, _⟩ := h1
  rw [e, List.take_append, List.take_of_length_le (by have := d.len h2; omega), show d.sz - c.length = 0 by have := d.len h2; omega]
  simpa using h2
theorem Reps.set : ∀ {xs : List α} {cs : List Value} (k : Nat) (x : α) (c : List Value), Reps d w O xs cs → d.rel w O x c → k < xs.length →
    Reps d w O (xs.set k x) (cs.take (k * d.sz) ++ c ++ cs.drop ((k + 1) * d.sz))
  | [], cs, k, x, c, h, hx, hk => by simp at hk
  | y :: ys, cs, 0, x, c, ⟨c0, r, e, h, hr⟩, hx, hk => by
    have hc := d.len h
    subst e
    refine ⟨c, r, ?_, hx, hr⟩
    simp [← hc]
  | y :: ys, cs, k + 1, x, c, ⟨c0, r, e, h, hr⟩, hx, hk => by
    have hc := d.len h
    refine ⟨c0, _, ?_, h, hr.set k x c hx (by simpa using hk)⟩
    subst e
    have t1 : (c0 ++ r).take ((k + 1) * d.sz) = c0 ++ r.take (k * d.sz) := by rw [show (k + 1) * d.sz = c0.length + k * d.sz by rw [hc, Nat.add_mul]; omega, take_add]
    have t2 : (c0 ++ r).drop ((k + 1 + 1) * d.sz) = r.drop ((k + 1) * d.sz) := by rw [show (k + 1 + 1) * d.sz = c0.length + (k + 1) * d.sz by rw [hc]; simp only [Nat.add_mul]; omega, drop_add]
    rw [t1, t2]
    simp only [List.append_assoc]
end

/-- The slice value v reads as the list xs; no block of O is met. -/
def Sl {α : Type} (d : Kd α) (w : World) (O : Nat → Prop) (v : Value) (xs : List α) : Prop :=
  ∃ (A : Option Addr) (c : Nat), v = .slice A xs.length c ∧ xs.length ≤ c ∧ c ≤ maxLen ∧
    (xs ≠ [] → ∃ (a : Addr) (cs : List Value), A = some a ∧ ¬ O a.block ∧ Reps d w O xs cs ∧ ∀ j u, cs[j]? = some u → w.cell? (a.add j) = some u)

section
variable {α : Type} {d : Kd α} {w w' : World} {O O' : Nat → Prop} {v : Value} {xs : List α}
theorem Sl.nil_ (d : Kd α) (w : World) (O : Nat → Prop) : Sl d w O (.slice none 0 0) [] := ⟨none, 0, rfl, Nat.le_refl _, Nat.zero_le _, fun h => absurd rfl h⟩
theorem Sl.anti (h : Sl d w O v xs) (hO : ∀ k, O' k → O k) : Sl d w O' v xs := by
  obtain ⟨A, c, e, hl, hc, h⟩ := h
  refine ⟨A, c, e, hl, hc, fun hx => ?_⟩
  obtain ⟨a, cs, ha, hn, hr, hcell⟩ := h hx
  exact ⟨a, cs, ha, fun ho => hn (hO _ ho), hr.anti hO, hcell⟩
theorem Sl.more (hs : 0 < d.sz) (h : Sl d w O v xs) : Sl d w (fun k => O k ∨ w.heap.size ≤ k) v xs := by
  obtain ⟨A, c, e, hl, hc, h⟩ := h
  refine ⟨A, c, e, hl, hc, fun hx => ?_⟩
  obtain ⟨a, cs, ha, hn, hr, hcell⟩ := h hx
  refine ⟨a, cs, ha, ?_, hr.more, hcell⟩
  have hlen : 0 < cs.length := by
    rw [hr.len]
    exact Nat.mul_pos (List.length_pos_iff.2 hx) hs
  have := World.block_lt_of_cell? w _ (hcell 0 _ (List.getElem?_eq_getElem hlen))
  rw [addr_block] at this
  rintro (ho | ho)
  · exact hn ho
  · omega
theorem Sl.keep (hs : 0 < d.sz) (h : Sl d w O v xs) (hk : Keeps O w w') : Sl d w' O v xs := by
  obtain ⟨A, c, e, hl, hc, h⟩ := h
  refine ⟨A, c, e, hl, hc, fun hx => ?_⟩
  obtain ⟨a, cs, ha, hn, hr, hcell⟩ := h hx
  refine ⟨a, cs, ha, hn, hr.keep hk, fun j u hu => ?_⟩
  have h1 := hcell j u hu
  have hlt := World.block_lt_of_cell? w _ h1
  rw [World.cell?_of_block (w := w) (hk _ hlt (by rw [addr_block]; exact hn))]
  exact h1
theorem Sl.val (h : Sl d w O v xs) : ∃ A c, v = .slice A xs.length c ∧ xs.length ≤ c ∧ c ≤ maxLen := by
  obtain ⟨A, c, e, hl, hc, _⟩ := h
  exact ⟨A, c, e, hl, hc⟩
theorem Sl.len_ (h : Sl d w O v xs) : xs.length ≤ maxLen := by
  obtain ⟨A, c, e, hl, hc, _⟩ := h
  omega
theorem Sl.at_ {A : Option Addr} {n c k : Nat} (h : Sl d w O (.slice A n c) xs) (hk : k < xs.length) :
    ∃ (a : Addr) (cs : List Value), A = some a ∧ ¬ O a.block ∧ d.rel w O xs[k] cs ∧ ∀ j u, cs[j]? = some u → w.cell? (a.add (k * d.sz + j)) = some u := by
  obtain ⟨A', c', e, hl, hc, h⟩ := h
  injection e with e1 e2 e3
  subst e1
  obtain ⟨a, cs, ha, hn, hr, hcell⟩ := h (by rintro rfl; simp at hk)
  refine ⟨a, _, ha, hn, hr.at_ hk, fun j u hu => hcell _ u ?_⟩
  rw [List.getElem?_take] at hu
  split at hu
  · rw [List.getElem?_drop] at hu; exact hu
  · cases hu
end

/-- Slices, as a kind. -/
def Kd.sl {α : Type} (d : Kd α) (hs : 0 < d.sz) : Kd (List α) where
  sz := 1
  rel := fun w O xs cs => ∃ v, cs = [v] ∧ Sl d w O v xs
  len := by rintro w O x cs ⟨v, rfl, _⟩; rfl
  one := by
    rintro w O x cs ⟨v, rfl, A, c, rfl, _⟩ u hu
    rw [List.mem_singleton.1 hu]
    rfl
  anti := by rintro w O O' x cs hO ⟨v, rfl, h⟩; exact ⟨v, rfl, h.anti hO⟩
  more := by rintro w O x cs ⟨v, rfl, h⟩; exact ⟨v, rfl, h.more hs⟩
  keep := by rintro w w' O x cs hk ⟨v, rfl, h⟩; exact ⟨v, rfl, h.keep hs hk⟩

/-- One cell, by its word. -/
def Kd.cell {α : Type} (enc : α → Value) (h1 : ∀ x, (enc x).oneCell' = true) : Kd α where
  sz := 1
  rel := fun _ _ x cs => cs = [enc x]
  len := by rintro w O x cs rfl; rfl
  one := by rintro w O x cs rfl u hu; rw [List.mem_singleton.1 hu]; exact h1 x
  anti := fun _ h => h
  more := fun h => h
  keep := fun _ h => h

def Kd.prod {α β : Type} (a : Kd α) (b : Kd β) : Kd (α × β) where
  sz := a.sz + b.sz
  rel := fun w O x cs => ∃ c r, cs = c ++ r ∧ a.rel w O x.1 c ∧ b.rel w O x.2 r
  len := by rintro w O x cs ⟨c, r, rfl, h, h'⟩; rw [List.length_append, a.len h, b.len h']
  one := by
    rintro w O x cs ⟨c, r, rfl, h, h'⟩ u hu
    rcases List.mem_append.1 hu with hu | hu
    · exact a.one h u hu
    · exact b.one h' u hu
  anti := by rintro w O O' x cs hO ⟨c, r, rfl, h, h'⟩; exact ⟨c, r, rfl, a.anti hO h, b.anti hO h'⟩
  more := by rintro w O x cs ⟨c, r, rfl, h, h'⟩; exact ⟨c, r, rfl, a.more h, b.more h'⟩
  keep := by rintro w w' O x cs hk ⟨c, r, rfl, h, h'⟩; exact ⟨c, r, rfl, a.keep hk h, b.keep hk h'⟩

def Kd.iso {α β : Type} (a : Kd α) (f : β → α) : Kd β where
  sz := a.sz
  rel := fun w O x cs => a.rel w O (f x) cs
  len := a.len
  one := a.one
  anti := a.anti
  more := a.more
  keep := a.keep

def kU8 : Kd UInt8 := Kd.cell (fun x => .int .u8 x.toNat) (fun _ => rfl)
def kI64 : Kd Int := Kd.cell (fun x => .int .i64 x) (fun _ => rfl)
def kBool : Kd Bool := Kd.cell (fun x => .bool x) (fun _ => rfl)
abbrev kBytes : Kd (List UInt8) := Kd.sl kU8 (by decide)
abbrev kInts : Kd (List Int) := Kd.sl kI64 (by decide)

/-- A row of the call's own (from block base on), which reads as the list xs; its elements lead to no block of O, and not to the row. -/
def Own {α : Type} (d : Kd α) (e : TypeId) (w : World) (base : Nat) (O : Nat → Prop) (v : Value) (xs : List α) : Prop :=
  ∃ cs, w.ownsRow base e d.sz v xs.length cs ∧ Reps d w (fun k => O k ∨ v.ownBlock = some k) xs cs

section
variable {α : Type} {d : Kd α} {e : TypeId} {base : Nat} {w w' : World} {O O' : Nat → Prop} {v : Value} {xs : List α}
theorem Own.nil_ (d : Kd α) (e : TypeId) (w : World) (base : Nat) (O : Nat → Prop) : Own d e w base O (.slice none 0 0) [] := ⟨[], World.ownsRow_nil _ _ _ _, rfl⟩
theorem Own.lt (h : Own d e w base O v xs) : ∀ k, v.ownBlock = some k → base ≤ k ∧ k < w.heap.size := by
  obtain ⟨cs, h, _⟩ := h
  exact h.lt
theorem Own.anti (h : Own d e w base O v xs) (hO : ∀ k, O' k → O k) : Own d e w base O' v xs := by
  obtain ⟨cs, h, hr⟩ := h
  exact ⟨cs, h, hr.anti fun k hk => hk.imp (hO k) id⟩
theorem Own.more (h : Own d e w base O v xs) : Own d e w base (fun k => O k ∨ w.heap.size ≤ k) v xs := by
  obtain ⟨cs, h, hr⟩ := h
  exact ⟨cs, h, hr.more.anti fun k hk => by rcases hk with (hk | hk) | hk <;> simp [hk]⟩
theorem Own.weaken {base' : Nat} (h : Own d e w base O v xs) (hb : base' ≤ base) : Own d e w base' O v xs := by
  obtain ⟨cs, ⟨h1, h2⟩, hr⟩ := h
  refine ⟨cs, ⟨h1, ?_⟩, hr⟩
  rcases h2 with h2 | ⟨g, cap, cur, hv, hg, h⟩
  · exact .inl h2
  · exact .inr ⟨g, cap, cur, hv, Nat.le_trans hb hg, h⟩
theorem Own.keep (h : Own d e w base O v xs) (hk : Keeps O w w') (hown : ∀ k, v.ownBlock = some k → ¬ O k) : Own d e w' base O v xs := by
  obtain ⟨cs, ho, hr⟩ := h
  have hlt := ho.lt
  refine ⟨cs, ⟨ho.1, ?_⟩, hr.keep fun k hk1 hk2 => hk k hk1 fun h => hk2 (.inl h)⟩
  rcases ho.2 with h2 | ⟨g, cap, cur, rfl, hg, hh, h⟩
  · exact .inl h2
  · exact .inr ⟨g, cap, cur, rfl, hg, by rw [hk g (hlt g rfl).2 (hown g rfl)]; exact hh, h⟩
theorem Own.sl (h : Own d e w base O v xs) (hown : ∀ k, v.ownBlock = some k → ¬ O k) : Sl d w O v xs := by
  obtain ⟨cs, ho, hr⟩ := h
  rcases ho.2 with ⟨rfl, hn⟩ | ⟨g, cap, cur, rfl, hg, hh, hnc, hcm, _⟩
  · have : xs = [] := List.eq_nil_of_length_eq_zero hn
    subst this
    exact Sl.nil_ d w O
  · exact ⟨_, _, rfl, hnc, hcm, fun _ => ⟨_, cs, rfl, hown g rfl, hr.anti fun k hk => .inl hk, ho.cells (g := g) rfl⟩⟩
theorem Own.val (h : Own d e w base O v xs) : ∃ A c, v = .slice A xs.length c ∧ xs.length ≤ c ∧ c ≤ maxLen := by
  obtain ⟨cs, ho, hr⟩ := h
  rcases ho.2 with ⟨rfl, hn⟩ | ⟨g, cap, cur, rfl, hg, hh, hnc, hcm, _⟩
  · exact ⟨none, 0, by rw [hn], by omega, Nat.zero_le _⟩
  · exact ⟨_, _, rfl, hnc, hcm⟩
end
theorem keeps_of {w w' : World} (h : Below w.heap.size w w') (O : Nat → Prop) : Keeps O w w' := fun k hk _ => h.block k hk
theorem Keeps.of_grown {w w' : World} {row : Option Nat} {O : Nat → Prop} (h : w.grownBy w' row) (hO : ∀ k, row = some k → O k) : Keeps O w w' :=
  fun k hk hn => h.block k hk fun e => hn (hO k e.symm)
theorem Keeps.drewN (O : Nat → Prop) (w : World) (n : Nat) : Keeps O w (w.drewN n) := fun _ _ _ => rfl
theorem Keeps.alloc (O : Nat → Prop) (w : World) (o : Obj) : Keeps O w (w.alloc o) := fun k hk _ => Below.heap_alloc w o k hk

section
variable {P : Program} (w : World)
theorem run_append_nil' (base : Nat) (t ty e : TypeId) (i : TypeInfo) (size : Nat) (ht : P.underlying t = some (.slice e)) (hi : P.info? e = some i)
    (v : Value) (n : Nat) (xs : List Value) (hown : w.ownsRow base e size v n xs) (A : Option Addr) (c : Nat) : (Builtin.append_ #[t, t] ty #[v, .slice A 0 c]).run P w = .ok v w := by
  rcases hown.2 with ⟨rfl, rfl⟩ | ⟨g, cap, cur, rfl, _, _, hnc, _⟩ <;> cases A <;>
    simp [Builtin.append_, run_underlying ht, sizeOf, typeInfo, hi, Builtin.lenOf, Builtin.firstCells, loadCells, loadCellsFrom, *, storeCells]

/-- append(own, xs...), whatever xs is. -/
theorem run_append_sl {α : Type} {d : Kd α} {base : Nat} {t ty e : TypeId} {i : TypeInfo} {z : Value} (ht : P.underlying t = some (.slice e)) (hi : P.info? e = some i) (hz : i.zero = some z)
    (hsize : i.size = d.sz) (hzs : z.cells.size = d.sz) (hs : 0 < d.sz) {O : Nat → Prop} {v : Value} {xs ys : List α} (hown : Own d e w base O v xs)
    {A : Option Addr} {m c : Nat} {cs : List Value} (hm : m = ys.length) (hr : Reps d w (fun k => O k ∨ v.ownBlock = some k) ys cs)
    (hc : ys ≠ [] → ∃ a, A = some a ∧ ∀ j x, cs[j]? = some x → w.cell? (a.add j) = some x)
    (h63 : xs.length + ys.length ≤ maxLen) (hbytes : (xs.length + ys.length) * i.bytes ≤ 140737488355328) (hbase : base ≤ w.heap.size) :
    ∃ v' w', (Builtin.append_ #[t, t] ty #[v, .slice A m c]).run P w = .ok v' w' ∧ Own d e w' base O v' (xs ++ ys) ∧ w.grownBy w' v.ownBlock ∧ (v'.ownBlock = v.ownBlock ∨ v'.ownBlock = some w.heap.size) := by
  subst hm
  obtain ⟨cur, ho, hrx⟩ := hown
  by_cases hy : ys = []
  · subst hy
    refine ⟨v, w, run_append_nil' w base t ty e i d.sz ht hi v _ cur ho A c, ⟨cur, ?_, by simpa using hrx⟩, World.grownBy.refl w _, .inl rfl⟩
    simpa using ho
  · obtain ⟨a, rfl, hcell⟩ := hc hy
    obtain ⟨v', w', hrun, h2, h3, _, h5⟩ := run_append_own_at (P := P) w base t ty e i z d.sz i.bytes ht hi hz hsize rfl hzs hs v _ cur ho a ys.length c cs hr.len hcell hr.one h63 hbytes hbase
    refine ⟨v', w', hrun, ⟨cur ++ cs, by rw [List.length_append]; exact h2, ?_⟩, h3, h5⟩
    have hall := (hrx.append hr).more
    refine (hall.keep (w' := w') (fun k hk hn => h3.block k hk fun e => hn (.inl (.inr e.symm)))).anti fun k hk => ?_
    rcases hk with hk | hk
    · exact .inl (.inl hk)
    · rcases h5 with h5 | h5
      · exact .inl (.inr (h5 ▸ hk))
      · rw [h5] at hk; injection hk with hk; exact .inr (by omega)

/-- What was known beside the row is known behind the append. -/
theorem grown_keep {w w' : World} {v v' : Value} (h3 : w.grownBy w' v.ownBlock) (h5 : v'.ownBlock = v.ownBlock ∨ v'.ownBlock = some w.heap.size) {O : Nat → Prop} (hO : ∀ k, v.ownBlock = some k → O k)
    {α : Type} {d : Kd α} {x : α} {cs : List Value} (h : d.rel w O x cs) : d.rel w' (fun k => O k ∨ v'.ownBlock = some k) x cs := by
  refine d.anti (fun k hk => ?_) (d.keep (w' := w') (fun k hk hn => h3.block k hk fun e => hn (.inl (hO k e.symm))) (d.more h))
  rcases hk with hk | hk
  · exact .inl hk
  · rcases h5 with h5 | h5
    · exact .inl (hO k (h5 ▸ hk))
    · rw [h5] at hk; injection hk with hk; exact .inr (by omega)

theorem wp_append_sl {o : Oper} {a : Act} {K : Act → World → Prop} {Q : Exit → Act → World → Prop} (s x : Operand) (t : TypeId)
    (ho : o.op = .call { callee := .builtin .append, args := #[s, x], argTypes := #[t, t] })
    {α : Type} {d : Kd α} {base : Nat} {e : TypeId} {i : TypeInfo} {z : Value} (ht : P.underlying t = some (.slice e)) (hi : P.info? e = some i) (hz : i.zero = some z)
    (hsize : i.size = d.sz) (hzs : z.cells.size = d.sz) (hs : 0 < d.sz) {O : Nat → Prop} {v : Value} {xs ys : List α} (hsv : a.eval s = v) (hown : Own d e w base O v xs)
    {A : Option Addr} {m c : Nat} {cs : List Value} (hxv : a.eval x = .slice A m c) (hm : m = ys.length) (hr : Reps d w (fun k => O k ∨ v.ownBlock = some k) ys cs)
    (hc : ys ≠ [] → ∃ a, A = some a ∧ ∀ j x, cs[j]? = some x → w.cell? (a.add j) = some x)
    (h63 : xs.length + ys.length ≤ maxLen) (hbytes : (xs.length + ys.length) * i.bytes ≤ 140737488355328) (hbase : base ≤ w.heap.size)
    (h : ∀ v' w', Own d e w' base O v' (xs ++ ys) → w.grownBy w' v.ownBlock → (v'.ownBlock = v.ownBlock ∨ v'.ownBlock = some w.heap.size) → K (a.put o.dst v') w') : o.wp P a w K Q := by
  obtain ⟨v', w', hrun, h2, h3, h4⟩ := run_append_sl (P := P) w (ty := o.type) ht hi hz hsize hzs hs hown (c := c) hm hr hc h63 hbytes hbase
  unfold Oper.wp execOp
  simp only [ho, resolve, invoke, builtin, Sem.run_bind, Sem.run_pure, Result.andThen_ok, List.map_toArray, List.map_cons, List.map_nil, hsv, hxv, hrun]
  exact h v' w' h2 h3 h4
end

section
variable {P : Program} {w : World}
theorem wpList_append_sl {ops : Array Oper} {rest : List Oper} {o : Oper} {a : Act} {Q : Exit → Act → World → Prop} (hgd : o.guard = none) (s x : Operand) (t : TypeId)
    (ho : o.op = .call { callee := .builtin .append, args := #[s, x], argTypes := #[t, t] })
    {α : Type} {d : Kd α} {base : Nat} {e : TypeId} {i : TypeInfo} {z : Value} (ht : P.underlying t = some (.slice e)) (hi : P.info? e = some i) (hz : i.zero = some z)
    (hsize : i.size = d.sz) (hzs : z.cells.size = d.sz) (hs : 0 < d.sz) {O : Nat → Prop} {v : Value} {xs ys : List α} (hsv : a.eval s = v) (hown : Own d e w base O v xs)
    {A : Option Addr} {m c : Nat} {cs : List Value} (hxv : a.eval x = .slice A m c) (hm : m = ys.length) (hr : Reps d w (fun k => O k ∨ v.ownBlock = some k) ys cs)
    (hc : ys ≠ [] → ∃ a, A = some a ∧ ∀ j x, cs[j]? = some x → w.cell? (a.add j) = some x)
    (h63 : xs.length + ys.length ≤ maxLen) (hbytes : (xs.length + ys.length) * i.bytes ≤ 140737488355328) (hbase : base ≤ w.heap.size)
    (h : ∀ v' w', Own d e w' base O v' (xs ++ ys) → w.grownBy w' v.ownBlock → (v'.ownBlock = v.ownBlock ∨ v'.ownBlock = some w.heap.size) → wpList P ops Q rest (a.put o.dst v') w') : wpList P ops Q (o :: rest) a w :=
  wpList_plain hgd fun _ hK => wp_append_sl w s x t ho ht hi hz hsize hzs hs hsv hown hxv hm hr hc h63 hbytes hbase fun v' w' h1 h2 h3 => hK _ _ (h v' w' h1 h2 h3)
end
/-- What Sl tells of a slice that is to be appended. -/
theorem Sl.news {α : Type} {d : Kd α} {w : World} {O : Nat → Prop} {A : Option Addr} {n c : Nat} {xs : List α} (h : Sl d w O (.slice A n c) xs) :
    ∃ cs, Reps d w O xs cs ∧ (xs ≠ [] → ∃ a, A = some a ∧ ∀ j x, cs[j]? = some x → w.cell? (a.add j) = some x) := by
  obtain ⟨A', c', e, hl, hc, h⟩ := h
  injection e with e1 e2 e3
  subst e1
  by_cases hx : xs = []
  · subst hx; exact ⟨[], rfl, fun h => absurd rfl h⟩
  · obtain ⟨a, cs, ha, _, hr, hcell⟩ := h hx
    exact ⟨cs, hr, fun _ => ⟨a, ha, hcell⟩⟩
theorem Own.made {α : Type} (d : Kd α) (e : TypeId) (w : World) (base : Nat) (O : Nat → Prop) (hb : base ≤ w.heap.size) : Own d e (w.alloc (.cells #[] e)) base O (.slice (some ⟨w.heap.size, 0, none⟩) 0 0) [] :=
  ⟨[], World.ownsRow_made w #[] 0 hb (by unfold maxLen; omega) (by simp), rfl⟩

/-- What was known when the call began is known later: of a slice that came in. -/
theorem Sl.later {α : Type} {d : Kd α} (hs : 0 < d.sz) {w0 w : World} {O : Nat → Prop} {v : Value} {xs : List α} (h : Sl d w0 O v xs) (hb : Below w0.heap.size w0 w) : Sl d w (fun k => O k ∨ w0.heap.size ≤ k) v xs :=
  (h.more hs).keep hs (keeps_of hb _)
theorem Kd.later {α : Type} (d : Kd α) {w0 w : World} {O : Nat → Prop} {x : α} {cs : List Value} (h : d.rel w0 O x cs) (hb : Below w0.heap.size w0 w) : d.rel w (fun k => O k ∨ w0.heap.size ≤ k) x cs :=
  d.keep (keeps_of hb _) (d.more h)

/-- The call began at w0 and stands at w: it owns the row v, which reads as xs; nothing that was there has turned. -/
def Out {α : Type} (d : Kd α) (e : TypeId) (w0 w : World) (O : Nat → Prop) (v : Value) (xs : List α) : Prop := Own d e w w0.heap.size O v xs ∧ Below w0.heap.size w0 w
section
variable {α : Type} {d : Kd α} {e : TypeId} {w0 w w' : World} {O O' : Nat → Prop} {v : Value} {xs ys : List α}
theorem Out.start (d : Kd α) (e : TypeId) (w : World) (O : Nat → Prop) : Out d e w w O (.slice none 0 0) [] := ⟨Own.nil_ _ _ _ _ _, Below.refl _ _⟩
theorem Out.nil_ (hb : Below w0.heap.size w0 w) : Out d e w0 w O (.slice none 0 0) [] := ⟨Own.nil_ _ _ _ _ _, hb⟩
theorem Out.made (hb : Below w0.heap.size w0 w) : Out d e w0 (w.alloc (.cells #[] e)) O (.slice (some ⟨w.heap.size, 0, none⟩) 0 0) [] :=
  ⟨Own.made _ _ _ _ _ hb.size, hb.alloc hb.size _⟩
theorem Out.step (h : Out d e w0 w O v xs) (hb : Below w.heap.size w w') (hO : ∀ k, O k → k < w0.heap.size) : Out d e w0 w' O v xs :=
  ⟨h.1.keep (keeps_of hb _) (fun k hk ho => by have := (h.1.lt k hk).1; have := hO k ho; omega), h.2.trans (hb.mono h.2.size)⟩
theorem Out.alloc (h : Out d e w0 w O v xs) (o : Obj) (hO : ∀ k, O k → k < w0.heap.size) : Out d e w0 (w.alloc o) O v xs := h.step ((Below.refl _ _).alloc (Nat.le_refl _) _) hO
theorem Out.anti (h : Out d e w0 w O v xs) (hO : ∀ k, O' k → O k) : Out d e w0 w O' v xs := ⟨h.1.anti hO, h.2⟩
theorem Out.sl (h : Out d e w0 w O v xs) (hO : ∀ k, O k → k < w0.heap.size) : Sl d w O v xs := h.1.sl fun k hk ho => by have := (h.1.lt k hk).1; have := hO k ho; omega
theorem Out.val (h : Out d e w0 w O v xs) : ∃ A c, v = .slice A xs.length c ∧ xs.length ≤ c ∧ c ≤ maxLen := h.1.val
theorem Out.mono {w1 : World} (h : Out d e w1 w O v xs) (hb : Below w0.heap.size w0 w1) : Out d e w0 w O v xs := ⟨h.1.weaken hb.size, hb.trans (h.2.mono hb.size)⟩
theorem lit_cells (w : World) (cells : Array Value) (e : TypeId) : ∀ j x, cells.toList[j]? = some x → (w.alloc (.cells cells e)).cell? ((⟨w.heap.size, 0, none⟩ : Addr).add j) = some x := by
  intro j x hj
  have : (⟨w.heap.size, 0, none⟩ : Addr).add j = ⟨w.heap.size, j, none⟩ := by unfold Addr.add; split <;> simp_all
  rw [this, cell_of_row _ _ j cells e (0, 0) (heap_alloc_new w _)]
  simpa using hj
/-- append(out, x, y, ..): the literal lies in a block of its own. -/
theorem wpList_append_lit {P : Program} {ops : Array Oper} {rest : List Oper} {o : Oper} {a : Act} {Q : Exit → Act → World → Prop} (hgd : o.guard = none) (s x : Operand) (t : TypeId)
    (ho : o.op = .call { callee := .builtin .append, args := #[s, x], argTypes := #[t, t] })
    {i : TypeInfo} {z : Value} (ht : P.underlying t = some (.slice e)) (hi : P.info? e = some i) (hz : i.zero = some z)
    (hsize : i.size = d.sz) (hzs : z.cells.size = d.sz) (hs : 0 < d.sz) (hsv : a.eval s = v) (hown : Out d e w0 w O v xs) (hO : ∀ k, O k → k < w0.heap.size)
    {m : Nat} {cells : Array Value} (hxv : a.eval x = .slice (some ⟨w.heap.size, 0, none⟩) m m) (hm : m = ys.length) (hr : Reps d w (fun k => O k ∨ v.ownBlock = some k) ys cells.toList)
    (h63 : xs.length + ys.length ≤ maxLen) (hbytes : (xs.length + ys.length) * i.bytes ≤ 140737488355328)
    (h : ∀ v' w', Out d e w0 w' O v' (xs ++ ys) → w.grownBy w' v.ownBlock → (∀ k, v'.ownBlock = some k → v.ownBlock = some k ∨ w.heap.size ≤ k) → wpList P ops Q rest (a.put o.dst v') w') :
    wpList P ops Q (o :: rest) a (w.alloc (.cells cells e)) := by
  have h1 := hown.alloc (.cells cells e) hO
  refine wpList_append_sl hgd s x t ho ht hi hz hsize hzs hs hsv h1.1 hxv hm (hr.keep (Keeps.alloc _ _ _)) (fun _ => ⟨_, rfl, lit_cells w cells e⟩) h63 hbytes h1.2.size fun v' w' h2 h3 h4 => ?_
  refine h v' w' ⟨h2, h1.2.grown h3 h1.2.size fun k hk => (h1.1.lt k hk).1⟩ ⟨h3.os, h3.tape, h3.output, Nat.le_trans (by simp) h3.size, fun k hk hn => (h3.block k (by simp; omega) hn).trans (Below.heap_alloc w _ k hk)⟩ fun k hk => ?_
  rcases h4 with h4 | h4
  · exact .inl (h4 ▸ hk)
  · rw [h4] at hk; injection hk with hk; simp at hk; exact .inr (by omega)
/-- append(out, xs...). -/
theorem wpList_append_any {P : Program} {ops : Array Oper} {rest : List Oper} {o : Oper} {a : Act} {Q : Exit → Act → World → Prop} (hgd : o.guard = none) (s x : Operand) (t : TypeId)
    (ho : o.op = .call { callee := .builtin .append, args := #[s, x], argTypes := #[t, t] })
    {i : TypeInfo} {z : Value} (ht : P.underlying t = some (.slice e)) (hi : P.info? e = some i) (hz : i.zero = some z)
    (hsize : i.size = d.sz) (hzs : z.cells.size = d.sz) (hs : 0 < d.sz) (hsv : a.eval s = v) (hown : Out d e w0 w O v xs) {u : Value} (hxv : a.eval x = u) (hu : Sl d w (fun k => O k ∨ v.ownBlock = some k) u ys)
    (h63 : xs.length + ys.length ≤ maxLen) (hbytes : (xs.length + ys.length) * i.bytes ≤ 140737488355328)
    (h : ∀ v' w', Out d e w0 w' O v' (xs ++ ys) → w.grownBy w' v.ownBlock → (∀ k, v'.ownBlock = some k → v.ownBlock = some k ∨ w.heap.size ≤ k) → wpList P ops Q rest (a.put o.dst v') w') :
    wpList P ops Q (o :: rest) a w := by
  obtain ⟨A, c, rfl, hl, hc⟩ := hu.val
  obtain ⟨cs, hr, hcell⟩ := hu.news
  refine wpList_append_sl hgd s x t ho ht hi hz hsize hzs hs hsv hown.1 hxv rfl hr hcell h63 hbytes hown.2.size fun v' w' h2 h3 h4 => ?_
  refine h v' w' ⟨h2, hown.2.grown h3 hown.2.size fun k hk => (hown.1.lt k hk).1⟩ h3 fun k hk => ?_
  rcases h4 with h4 | h4
  · exact .inl (h4 ▸ hk)
  · rw [h4] at hk; injection hk with hk; exact .inr (by omega)
/-- A slice that came in does not meet the row. -/
theorem Out.par (hown : Out d e w0 w O v xs) {β : Type} {d' : Kd β} (hs : 0 < d'.sz) {u : Value} {zs : List β} (h : Sl d' w0 O u zs) : Sl d' w (fun k => O k ∨ v.ownBlock = some k) u zs :=
  (h.later hs hown.2).anti fun k hk => hk.imp id fun hk => (hown.1.lt k hk).1
end

/-! cuts of a slice -/
section
variable {P : Program} {α : Type} {d : Kd α} {w : World} {O : Nat → Prop} {xs : List α} {A : Option Addr} {n c : Nat}
theorem Sl.cut (h : Sl d w O (.slice A n c) xs) {lo hi m : Nat} (h1 : lo ≤ hi) (h2 : hi ≤ xs.length) (h3 : hi ≤ m) (h4 : m ≤ c) :
    Sl d w O (.slice (if m = lo then A else A.map (·.add (lo * d.sz))) (hi - lo) (m - lo)) ((xs.take hi).drop lo) := by
  obtain ⟨A', c', e, hl, hc, h⟩ := h
  injection e with e1 e2 e3
  subst e1 e2 e3
  have hlen : ((xs.take hi).drop lo).length = hi - lo := by rw [List.length_drop, List.length_take, Nat.min_eq_left h2]
  refine ⟨_, _, by rw [hlen], by rw [hlen]; omega, by omega, fun hx => ?_⟩
  have hpos : lo < hi := by
    rcases Nat.lt_or_ge lo hi with h | h
    · exact h
    · exact absurd (List.eq_nil_of_length_eq_zero (by rw [hlen]; omega)) hx
  obtain ⟨a, cs, rfl, hn, hr, hcell⟩ := h (by rintro rfl; simp at h2; omega)
  rw [if_neg (by omega)]
  refine ⟨_, _, rfl, by rw [addr_block]; exact hn, (hr.take hi).drop lo, fun j u hu => ?_⟩
  rw [addr_add]
  refine hcell _ u ?_
  rw [List.getElem?_drop, List.getElem?_take] at hu
  split at hu
  · exact hu
  · cases hu
variable {t e : TypeId} {i : TypeInfo} (ht : P.underlying t = some (.slice e)) (hin : P.info? e = some i) (hs : i.size = d.sz) (h : Sl d w O (.slice A n c) xs)
include ht hin hs h
theorem run_cut {lo hi mx : Option Value} {l k m : Nat} (hb : ∀ w', (Instr.sliceBounds true n c lo hi mx).run P w' = .ok (l, k, m) w') (h1 : l ≤ k) (h2 : k ≤ xs.length) (h3 : k ≤ m) (h4 : m ≤ c) :
    ∃ A' c', (∀ w', (Instr.sliceAt t (.slice A n c) lo hi mx).run P w' = .ok (.slice A' (k - l) c') w') ∧ Sl d w O (.slice A' (k - l) c') ((xs.take k).drop l) := by
  refine ⟨_, _, fun w' => ?_, h.cut h1 h2 h3 h4⟩
  simp [Instr.sliceAt, run_underlying ht, Instr.slice, hb w', sizeOf, typeInfo, hin, hs]
theorem cut_lh {kl kh : IntKind} {l k : Int} (h0 : 0 ≤ l) (h1 : l ≤ k) (h2 : k ≤ xs.length) :
    ∃ A' c', (∀ w', (Instr.sliceAt t (.slice A n c) (some (.int kl l)) (some (.int kh k)) none).run P w' = .ok (.slice A' (k.toNat - l.toNat) c') w') ∧ Sl d w O (.slice A' (k.toNat - l.toNat) c') ((xs.take k.toNat).drop l.toNat) := by
  have hc : xs.length ≤ c := by obtain ⟨A', c', e, hl, _⟩ := h; injection e with _ _ e; omega
  refine run_cut ht hin hs h (m := c) (fun w' => ?_) (by omega) (by omega) (by omega) (Nat.le_refl _)
  have ek : (k.toNat : Int) = k := Int.toNat_of_nonneg (by omega)
  simp [Instr.sliceBounds, run_sliceBound, *, (by omega : 0 ≤ k), (by omega : k ≤ (c : Int))]
theorem cut_h {kh : IntKind} {k : Int} (h0 : 0 ≤ k) (h2 : k ≤ xs.length) :
    ∃ A' c', (∀ w', (Instr.sliceAt t (.slice A n c) none (some (.int kh k)) none).run P w' = .ok (.slice A' k.toNat c') w') ∧ Sl d w O (.slice A' k.toNat c') (xs.take k.toNat) := by
  have hc : xs.length ≤ c := by obtain ⟨A', c', e, hl, _⟩ := h; injection e with _ _ e; omega
  have := run_cut ht hin hs h (lo := none) (hi := some (.int kh k)) (mx := none) (l := 0) (k := k.toNat) (m := c) (fun w' => ?_) (by omega) (by omega) (by omega) (Nat.le_refl _)
  · simpa using this
  · simp [Instr.sliceBounds, run_sliceBound, *, (by omega : k ≤ (c : Int))]
theorem cut_l {kl : IntKind} {l : Int} (h0 : 0 ≤ l) (h1 : l ≤ xs.length) :
    ∃ A' c', (∀ w', (Instr.sliceAt t (.slice A n c) (some (.int kl l)) none none).run P w' = .ok (.slice A' (xs.length - l.toNat) c') w') ∧ Sl d w O (.slice A' (xs.length - l.toNat) c') (xs.drop l.toNat) := by
  have hc : n = xs.length ∧ xs.length ≤ c := by obtain ⟨A', c', e, hl, _⟩ := h; injection e with _ e1 e; omega
  obtain ⟨rfl, hc⟩ := hc
  have := run_cut ht hin hs h (lo := some (.int kl l)) (hi := none) (mx := none) (l := l.toNat) (k := xs.length) (m := c) (fun w' => ?_) (by omega) (by omega) hc (Nat.le_refl _)
  · simpa using this
  · simp [Instr.sliceBounds, run_sliceBound, *]
theorem cut_lhm {kl kh km : IntKind} {l k m : Int} (h0 : 0 ≤ l) (h1 : l ≤ k) (h2 : k ≤ xs.length) (h3 : k ≤ m) (h4 : m ≤ c) :
    ∃ A' c', (∀ w', (Instr.sliceAt t (.slice A n c) (some (.int kl l)) (some (.int kh k)) (some (.int km m))).run P w' = .ok (.slice A' (k.toNat - l.toNat) c') w') ∧ Sl d w O (.slice A' (k.toNat - l.toNat) c') ((xs.take k.toNat).drop l.toNat) := by
  refine run_cut ht hin hs h (m := m.toNat) (fun w' => ?_) (by omega) (by omega) (by omega) (by omega)
  have ek : (k.toNat : Int) = k := Int.toNat_of_nonneg (by omega)
  have em : (m.toNat : Int) = m := Int.toNat_of_nonneg (by omega)
  simp [Instr.sliceBounds, run_sliceBound, *, (by omega : 0 ≤ k), (by omega : 0 ≤ m)]
end
theorem Reps.u8_map {w : World} {O : Nat → Prop} : ∀ {xs : List UInt8} {cs : List Value}, Reps kU8 w O xs cs ↔ cs = xs.map fun x => .int .u8 x.toNat
  | [], cs => Iff.rfl
  | x :: xs, cs => ⟨fun ⟨c, r, e, h, hr⟩ => by rw [e, show c = [.int .u8 x.toNat] from h, Reps.u8_map.1 hr]; rfl,
      fun h => ⟨[.int .u8 x.toNat], _, h, rfl, Reps.u8_map.2 rfl⟩⟩
/-- The cells of element k, at the address as the walk reckons it. -/
theorem Sl.cells_at {α : Type} {d : Kd α} (hs : 0 < d.sz) {w : World} {O : Nat → Prop} {A : Option Addr} {n c k : Nat} {xs : List α} (h : Sl d w O (.slice A n c) xs) (hk : k < xs.length) :
    ∃ (g o : Nat) (cs : List Value), A = some ⟨g, o, none⟩ ∧ ¬ O g ∧ d.rel w O xs[k] cs ∧ ∀ j u, cs[j]? = some u → w.cell? ⟨g, o + (k * d.sz + j), none⟩ = some u := by
  obtain ⟨a, cs, rfl, hn, hr, hc⟩ := h.at_ hk
  obtain ⟨a0, cs0, e0, _, hr0, hc0⟩ := h.at_ (k := 0) (by omega)
  injection e0 with e0
  subst e0
  have h0 : ∃ u, w.cell? a = some u := by
    have := hc0 0 _ (List.getElem?_eq_getElem (by rw [d.len hr0]; exact hs))
    simp [Addr.add] at this
    exact ⟨_, this⟩
  obtain ⟨g, o, sp⟩ := a
  obtain ⟨u0, h0⟩ := h0
  have hsp : sp = none := by
    unfold World.cell? at h0
    split at h0
    · split at h0
      · cases h0
      · rename_i hh; simpa using hh
    · cases h0
  subst hsp
  refine ⟨g, o, cs, rfl, hn, hr, fun j u hu => ?_⟩
  have := hc j u hu
  unfold Addr.add at this
  split at this
  · rename_i hz; rw [hz]; exact this
  · exact this
theorem Sl.byte {w : World} {O : Nat → Prop} {A : Option Addr} {n c k : Nat} {b : List UInt8} (h : Sl kU8 w O (.slice A n c) b) (hk : k < b.length) :
    ∃ g o, A = some ⟨g, o, none⟩ ∧ w.cell? ⟨g, o + k, none⟩ = some (.int .u8 b[k].toNat) := by
  obtain ⟨g, o, cs, ha, _, hr, hc⟩ := h.cells_at (by decide) hk
  refine ⟨g, o, ha, ?_⟩
  have := hc 0 (.int .u8 b[k].toNat) (by rw [show cs = _ from hr]; rfl)
  simpa [kU8, Kd.cell] using this
theorem Sl.byte' {w : World} {O : Nat → Prop} {g o n c k : Nat} {b : List UInt8} (h : Sl kU8 w O (.slice (some ⟨g, o, none⟩) n c) b) (hk : k < b.length) : w.cell? ⟨g, o + k, none⟩ = some (.int .u8 b[k].toNat) := by
  obtain ⟨g', o', e, h⟩ := h.byte hk
  cases e
  exact h

/-! bits of int -/
theorem ofInt_i64 (a : Nat) (ha : a < 9223372036854775808) : (BitVec.ofInt 64 (a : Int)).toNat = a := by
  rw [BitVec.ofInt_natCast, BitVec.toNat_ofNat]; exact Nat.mod_eq_of_lt (by omega)
theorem i64_or_nat (a b : Nat) (ha : a < 9223372036854775808) (hb : b < 9223372036854775808) : bits .or .i64 (a : Int) (b : Int) = ((a ||| b : Nat) : Int) := by
  have hx : a ||| b < 2 ^ 63 := Nat.or_lt_two_pow (by omega) (by omega)
  show IntKind.i64.wrap ((BitVec.ofInt 64 (a : Int) ||| BitVec.ofInt 64 (b : Int)).toNat : Int) = _
  rw [BitVec.toNat_or, ofInt_i64 a ha, ofInt_i64 b hb, IntKind.wrap_i64]
  omega
theorem i64_and_nat (a b : Nat) (ha : a < 9223372036854775808) (hb : b < 9223372036854775808) : bits .and .i64 (a : Int) (b : Int) = ((a &&& b : Nat) : Int) := by
  have hx : a &&& b < 2 ^ 63 := Nat.and_lt_two_pow _ (by omega)
  show IntKind.i64.wrap ((BitVec.ofInt 64 (a : Int) &&& BitVec.ofInt 64 (b : Int)).toNat : Int) = _
  rw [BitVec.toNat_and, ofInt_i64 a ha, ofInt_i64 b hb, IntKind.wrap_i64]
  omega
/-- An octet laid behind a number that was moved by eight bits. -/
theorem or_byte (n : Int) (x : UInt8) (h0 : 0 ≤ n) (h1 : n ≤ 1099511627776) : bits .or .i64 (n * 256) x.toNat = n * 256 + x.toNat := by
  obtain ⟨m, rfl⟩ := Int.eq_ofNat_of_zero_le h0
  have hx := UInt8.toNat_lt x
  rw [show ((m : Int) * 256) = ((m * 256 : Nat) : Int) by omega, i64_or_nat _ _ (by omega) (by omega)]
  have := Nat.shiftLeft_add_eq_or_of_lt (a := m) (b := x.toNat) (i := 8) (by omega)
  simp only [Nat.shiftLeft_eq, Nat.reducePow] at this
  omega

/-! literals; octets as strings -/
theorem Sl.lit {α : Type} {d : Kd α} {w : World} {O : Nat → Prop} {cells : Array Value} {xs : List α} {m : Nat} (e : TypeId) (h : Reps d w O xs cells.toList) (hn : m = xs.length) (hm : m ≤ maxLen) (hO : ∀ k, O k → k < w.heap.size) :
    Sl d (w.alloc (.cells cells e)) O (.slice (some ⟨w.heap.size, 0, none⟩) m m) xs := by
  subst hn
  exact ⟨_, _, rfl, Nat.le_refl _, hm, fun _ => ⟨_, cells.toList, rfl, fun ho => by have := hO _ ho; simp at this, h.keep (Keeps.alloc _ _ _), lit_cells w cells e⟩⟩
def str (l : List UInt8) : ByteArray := ⟨l.toArray⟩
theorem str_inj {a b : List UInt8} (h : str a = str b) : a = b := by
  unfold str at h
  injection h with h
  simpa using h
theorem run_conv {P : Program} {src dst e : TypeId} (hs : P.underlying src = some (.slice e)) (he : P.underlying e = some (.int .u8)) (hd : P.underlying dst = some .string) {w : World} {O : Nat → Prop} {v : Value} {b : List UInt8} (h : Sl kU8 w O v b) :
    (convert src dst v).run P w = .ok (.string (str b)) w := by
  obtain ⟨A, c, rfl, hl, hc⟩ := h.val
  cases A with
  | none =>
    have hb : b = [] := by
      by_cases hb : b = []
      · exact hb
      · obtain ⟨_, _, e, _⟩ := h.byte (k := 0) (by have := List.length_pos_iff.2 hb; omega)
        cases e
    subst hb
    rw [run_convert_bytes_nil w src e hs he _ _ dst hd]
    rfl
  | some a =>
    refine run_convert_bytes_back w src dst e a c b hs he hd fun j hj => ?_
    obtain ⟨a', cs, ha, _, hr, hcell⟩ := h.at_ hj
    injection ha with ha
    subst ha
    have := hcell 0 (.int .u8 b[j].toNat) (by rw [show cs = _ from hr]; rfl)
    simpa [kU8, Kd.cell] using this
@[go_sem] theorem str_toList (l : List UInt8) : (str l).toList = l := by unfold str; simp
@[go_sem] theorem str_size (l : List UInt8) : (str l).size = l.length := by simp [str, ByteArray.size]
@[go_sem] theorem str_append (a b : List UInt8) : str a ++ str b = str (a ++ b) := by apply ByteArray.ext; simp [str]
theorem run_streq {P : Program} (t : TypeId) (a b : List UInt8) (w : World) : (binOp .eql t (.string (str a)) (.string (str b))).run P w = .ok (.bool (a == b)) w := by
  rw [binOp_string_eql]
  have : ∀ l : List UInt8, (str l).toList = l := fun l => by unfold str; simp
  rw [this, this]; rfl
end Go.Proofs.YthcoccoanpmhgaaDoor
