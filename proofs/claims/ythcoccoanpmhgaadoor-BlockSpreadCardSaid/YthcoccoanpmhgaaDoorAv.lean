/- The data of a walk, without memory: values as they read (AV), how they stand for the machine's values (RV), memory of one's own (AObj, HRel). No program in sight. -/
import Derived.Test.YthcoccoanpmhgaaDoorAGlob
import Derived.Deep.MidRow
import Derived.ControlIn
import Derived.CallsIn
namespace Go.Proofs.YthcoccoanpmhgaaDoor
open Go.RowKit
set_option linter.unusedVariables false
set_option linter.unusedSimpArgs false

/-- A value as it reads: slices that nobody writes any more (sl), rows of one's own (row), pointers into memory of one's own (ptr) and into memory that nobody writes (ip). -/
inductive AV where
  | junk
  | lit (x : Value)
  | agg (cs : List AV)
  | arr (sz n : Nat) (f : Nat → List AV)
  | tup (vs : List AV)
  | sl (sz n : Nat) (t : Bool) (f : Nat → List AV)
  | row (i sz off n : Nat) (cap : Option Nat)
  | ptr (i sz k o : Nat)
  | ip (cs : List AV)
  | fn (f : Fn) (first captured : List AV)
  | iface (t : TypeId) (v : AV)

/-- Where an object of one's own lies: nowhere yet (a nil row), or in a block, with so many elements. -/
abbrev Loc := Option (Nat × Nat)
abbrev Mu := Nat → Option Loc
def noMu : Mu := fun _ => none
/-- The first k alone. -/
def upto (k : Nat) (μ : Mu) : Mu := fun i => if i < k then μ i else none
theorem upto_le (k : Nat) (μ : Mu) : ∀ i l, upto k μ i = some l → μ i = some l := fun i l h => by
  unfold upto at h
  split at h
  · exact h
  · cases h
theorem upto_mono {k : Nat} {μ μ' : Mu} (h : ∀ i l, μ i = some l → μ' i = some l) : ∀ i l, upto k μ i = some l → upto k μ' i = some l := fun i l hi => by
  unfold upto at *
  split at hi
  · rename_i hlt; rw [if_pos hlt]; exact h i l hi
  · cases hi
theorem upto_all {k : Nat} {μ : Mu} (h : ∀ i l, μ i = some l → i < k) : upto k μ = μ := by
  funext i
  unfold upto
  split
  · rfl
  · rename_i hn
    cases hm : μ i with
    | none => rfl
    | some l => exact (hn (h i l hm)).elim

inductive RV (O : Nat → Prop) (w : World) : Mu → AV → Value → Prop
  | junk {μ} (v : Value) : RV O w μ .junk v
  | lit {μ} (x : Value) : RV O w μ (.lit x) x
  | agg {μ} {cs : List AV} {vs : List Value} (h1 : cs.length = vs.length) (h : ∀ (j : Nat) a v, cs[j]? = some a → vs[j]? = some v → RV O w μ a v) : RV O w μ (.agg cs) (.agg vs.toArray)
  | arr {μ} {sz n : Nat} {f : Nat → List AV} {vs : List Value} (hone : ∀ u ∈ vs, u.oneCell' = true) (h1 : vs.length = n * sz) (h2 : ∀ k, k < n → (f k).length = sz)
      (h : ∀ (k j : Nat) a v, k < n → (f k)[j]? = some a → vs[k * sz + j]? = some v → RV O w noMu a v) : RV O w μ (.arr sz n f) (.agg vs.toArray)
  | tup {μ} {cs : List AV} {vs : List Value} (h1 : cs.length = vs.length) (h : ∀ (j : Nat) a v, cs[j]? = some a → vs[j]? = some v → RV O w μ a v) : RV O w μ (.tup cs) (.tuple vs.toArray)
  | sl {μ} {sz n : Nat} {t : Bool} {f : Nat → List AV} {A : Option Addr} {c : Nat} {vs : List Value} (hone : ∀ u ∈ vs, u.oneCell' = true) (hc : n ≤ c) (hm : c ≤ maxLen) (ht : t = true → c = n) (h1 : vs.length = n * sz) (h2 : ∀ k, k < n → (f k).length = sz)
      (h : ∀ (k j : Nat) a v, k < n → (f k)[j]? = some a → vs[k * sz + j]? = some v → RV O w noMu a v) (hz : 0 < sz)
      (hA : n ≠ 0 → ∃ g o, A = some ⟨g, o, none⟩ ∧ ¬ O g ∧ ∀ j u, vs[j]? = some u → w.cell? ⟨g, o + j, none⟩ = some u) : RV O w μ (.sl sz n t f) (.slice A n c)
  | rowNil {μ : Mu} {i sz : Nat} {cap : Option Nat} (h : μ i = some none) (hc : cap = none ∨ cap = some 0) : RV O w μ (.row i sz 0 0 cap) (.slice none 0 0)
  | row {μ : Mu} {i sz off n b m c : Nat} {cap : Option Nat} (h : μ i = some (some (b, m))) (hn : n ≤ c) (hc : off + c ≤ m) (hcap : ∀ q, cap = some q → c = q) (hend : cap = none → off + c = m) : RV O w μ (.row i sz off n cap) (.slice (some ⟨b, off * sz, none⟩) n c)
  | rowE {μ : Mu} {i sz off b m o : Nat} {cap : Option Nat} (h : μ i = some (some (b, m))) (hcap : cap = none ∨ cap = some 0) (hoff : off ≠ 0) : RV O w μ (.row i sz off 0 cap) (.slice (some ⟨b, o, none⟩) 0 0)
  | ptr {μ : Mu} {i sz k o b m : Nat} (h : μ i = some (some (b, m))) : RV O w μ (.ptr i sz k o) (.pointer (some ⟨b, k * sz + o, none⟩))
  | ip {μ} {cs : List AV} {g o : Nat} {vs : List Value} (h1 : cs.length = vs.length) (h : ∀ (j : Nat) a v, cs[j]? = some a → vs[j]? = some v → RV O w noMu a v) (hg : ¬ O g) (hl : g < w.heap.size)
      (hA : ∀ j u, vs[j]? = some u → w.cell? ⟨g, o + j, none⟩ = some u) : RV O w μ (.ip cs) (.pointer (some ⟨g, o, none⟩))
  | fn {μ} {f : Fn} {cs ds : List AV} {vs us : List Value} (h1 : cs.length = vs.length) (h : ∀ (j : Nat) a v, cs[j]? = some a → vs[j]? = some v → RV O w μ a v) (h2 : ds.length = us.length)
      (h' : ∀ (j : Nat) a v, ds[j]? = some a → us[j]? = some v → RV O w μ a v) : RV O w μ (.fn f cs ds) (.func f vs.toArray us.toArray)
  | iface {μ} {t : TypeId} {a : AV} {v : Value} (h : RV O w μ a v) : RV O w μ (.iface t a) (.iface t v)

def RVs (O : Nat → Prop) (w : World) (μ : Mu) (cs : List AV) (vs : List Value) : Prop := cs.length = vs.length ∧ ∀ (j : Nat) a v, cs[j]? = some a → vs[j]? = some v → RV O w μ a v

section
variable {O O' : Nat → Prop} {w w' : World}
/-- What was known stays known: where cells that were not written stay as they were, and no more of them may be written. -/
theorem RV.monoC (hO : ∀ b, b < w.heap.size → O' b → O b) (hs : w.heap.size ≤ w'.heap.size) (hw : ∀ b, b < w.heap.size → ¬ O b → ∀ o u, w.cell? ⟨b, o, none⟩ = some u → w'.cell? ⟨b, o, none⟩ = some u) {μ : Mu} {a : AV} {v : Value} (h : RV O w μ a v) :
    ∀ μ' : Mu, (∀ i l, μ i = some l → μ' i = some l) → RV O' w' μ' a v := by
  have cell : ∀ g o u, ¬ O g → w.cell? ⟨g, o, none⟩ = some u → ¬ O' g ∧ w'.cell? ⟨g, o, none⟩ = some u := by
    intro g o u hg hc
    have hlt := World.block_lt_of_cell? w _ hc
    exact ⟨fun h => hg (hO g hlt h), hw g hlt hg o u hc⟩
  induction h with
  | junk v => exact fun _ _ => .junk v
  | lit x => exact fun _ _ => .lit x
  | agg h1 h ih => exact fun μ' hμ => .agg h1 fun j a v ha hv => ih j a v ha hv μ' hμ
  | arr ho h1 h2 h ih => exact fun μ' hμ => .arr ho h1 h2 fun k j a v hk ha hv => ih k j a v hk ha hv noMu fun _ _ h => h
  | tup h1 h ih => exact fun μ' hμ => .tup h1 fun j a v ha hv => ih j a v ha hv μ' hμ
  | sl ho hc hm ht h1 h2 h hz hA ih =>
    refine fun μ' hμ => .sl ho hc hm ht h1 h2 (fun k j a v hk ha hv => ih k j a v hk ha hv noMu fun _ _ h => h) hz fun hn => ?_
    obtain ⟨g, o, rfl, hg, hcell⟩ := hA hn
    rename_i vs
    have h0 : 0 < vs.length := by rw [h1]; exact Nat.mul_pos (Nat.pos_of_ne_zero hn) hz
    exact ⟨g, o, rfl, (cell g _ _ hg (hcell 0 _ (List.getElem?_eq_getElem h0))).1, fun j u hu => (cell g _ _ hg (hcell j u hu)).2⟩
  | rowNil h hc => exact fun μ' hμ => .rowNil (hμ _ _ h) hc
  | row h hn hc hcap he => exact fun μ' hμ => .row (hμ _ _ h) hn hc hcap he
  | rowE h hc ho => exact fun μ' hμ => .rowE (hμ _ _ h) hc ho
  | ptr h => exact fun μ' hμ => .ptr (hμ _ _ h)
  | ip h1 h hg hl hA ih =>
    refine fun μ' hμ => .ip h1 (fun j a v ha hv => ih j a v ha hv noMu fun _ _ h => h) (fun h => hg (hO _ hl h)) (Nat.lt_of_lt_of_le hl hs) fun j u hu => (cell _ _ _ hg (hA j u hu)).2
  | fn h1 h h2 h' ih ih' => exact fun μ' hμ => .fn h1 (fun j a v ha hv => ih j a v ha hv μ' hμ) h2 fun j a v ha hv => ih' j a v ha hv μ' hμ
  | iface h ih => exact fun μ' hμ => .iface (ih μ' hμ)
/-- What was known stays known: where blocks that were not written stay as they were, and no more of them may be written. -/
theorem RV.mono (hO : ∀ b, b < w.heap.size → O' b → O b) (hw : ∀ b, b < w.heap.size → ¬ O b → w'.heap[b]? = w.heap[b]?) {μ : Mu} {a : AV} {v : Value} (h : RV O w μ a v) :
    ∀ μ' : Mu, (∀ i l, μ i = some l → μ' i = some l) → RV O' w' μ' a v := by
  have cell : ∀ g o u, ¬ O g → w.cell? ⟨g, o, none⟩ = some u → ¬ O' g ∧ w'.cell? ⟨g, o, none⟩ = some u ∧ g < w'.heap.size := by
    intro g o u hg hc
    have hlt := World.block_lt_of_cell? w _ hc
    have he := hw g hlt hg
    refine ⟨fun h => hg (hO g hlt h), (World.cell?_of_block (w := w) he).trans hc, ?_⟩
    have : w'.heap[g]? = some w.heap[g] := by rw [he]; exact Array.getElem?_eq_getElem hlt
    exact (Array.getElem?_eq_some_iff.1 this).1
  induction h with
  | junk v => exact fun _ _ => .junk v
  | lit x => exact fun _ _ => .lit x
  | agg h1 h ih => exact fun μ' hμ => .agg h1 fun j a v ha hv => ih j a v ha hv μ' hμ
  | arr ho h1 h2 h ih => exact fun μ' hμ => .arr ho h1 h2 fun k j a v hk ha hv => ih k j a v hk ha hv noMu fun _ _ h => h
  | tup h1 h ih => exact fun μ' hμ => .tup h1 fun j a v ha hv => ih j a v ha hv μ' hμ
  | sl ho hc hm ht h1 h2 h hz hA ih =>
    refine fun μ' hμ => .sl ho hc hm ht h1 h2 (fun k j a v hk ha hv => ih k j a v hk ha hv noMu fun _ _ h => h) hz fun hn => ?_
    obtain ⟨g, o, rfl, hg, hcell⟩ := hA hn
    rename_i vs
    have h0 : 0 < vs.length := by rw [h1]; exact Nat.mul_pos (Nat.pos_of_ne_zero hn) hz
    exact ⟨g, o, rfl, (cell g _ _ hg (hcell 0 _ (List.getElem?_eq_getElem h0))).1, fun j u hu => (cell g _ _ hg (hcell j u hu)).2.1⟩
  | rowNil h hc => exact fun μ' hμ => .rowNil (hμ _ _ h) hc
  | row h hn hc hcap he => exact fun μ' hμ => .row (hμ _ _ h) hn hc hcap he
  | rowE h hc ho => exact fun μ' hμ => .rowE (hμ _ _ h) hc ho
  | ptr h => exact fun μ' hμ => .ptr (hμ _ _ h)
  | ip h1 h hg hl hA ih =>
    refine fun μ' hμ => .ip h1 (fun j a v ha hv => ih j a v ha hv noMu fun _ _ h => h) (fun h => hg (hO _ hl h)) ?_ fun j u hu => (cell _ _ _ hg (hA j u hu)).2.1
    have he := hw _ hl hg
    exact (Array.getElem?_eq_some_iff.1 (he.trans (Array.getElem?_eq_getElem hl))).1
  | fn h1 h h2 h' ih ih' => exact fun μ' hμ => .fn h1 (fun j a v ha hv => ih j a v ha hv μ' hμ) h2 fun j a v ha hv => ih' j a v ha hv μ' hμ
  | iface h ih => exact fun μ' hμ => .iface (ih μ' hμ)
theorem RV.up {μ : Mu} {a : AV} {v : Value} (h : RV O w noMu a v) : RV O w μ a v := h.mono (fun _ _ h => h) (fun _ _ _ => rfl) _ fun i l h => by cases h
theorem RVs.mono (hO : ∀ b, b < w.heap.size → O' b → O b) (hw : ∀ b, b < w.heap.size → ¬ O b → w'.heap[b]? = w.heap[b]?) {μ μ' : Mu} {a : List AV} {v : List Value} (h : RVs O w μ a v)
    (hμ : ∀ i l, μ i = some l → μ' i = some l) : RVs O' w' μ' a v := ⟨h.1, fun j a v ha hv => (h.2 j a v ha hv).mono hO hw _ hμ⟩
theorem RVs.nil {μ : Mu} : RVs O w μ [] [] := ⟨rfl, fun j a v h => by simp at h⟩
theorem RVs.cons {μ : Mu} {a : AV} {v : Value} {cs : List AV} {vs : List Value} (h : RV O w μ a v) (hs : RVs O w μ cs vs) : RVs O w μ (a :: cs) (v :: vs) :=
  ⟨by simp [hs.1], fun j x y hx hy => by
    cases j with
    | zero => simp at hx hy; subst hx hy; exact h
    | succ j => simp at hx hy; exact hs.2 j x y hx hy⟩
theorem RVs.uncons {μ : Mu} {a : AV} {cs : List AV} {vs : List Value} (h : RVs O w μ (a :: cs) vs) : ∃ v us, vs = v :: us ∧ RV O w μ a v ∧ RVs O w μ cs us := by
  obtain ⟨h1, h2⟩ := h
  cases vs with
  | nil => simp at h1
  | cons v us => exact ⟨v, us, rfl, h2 0 a v rfl rfl, by simpa using h1, fun j x y hx hy => h2 (j + 1) x y (by simpa using hx) (by simpa using hy)⟩
theorem RVs.unnil {μ : Mu} {vs : List Value} (h : RVs O w μ [] vs) : vs = [] := by
  obtain ⟨h1, _⟩ := h
  cases vs with
  | nil => rfl
  | cons => simp at h1
theorem RVs.drop {μ : Mu} {cs : List AV} {vs : List Value} (h : RVs O w μ cs vs) (k : Nat) : RVs O w μ (cs.drop k) (vs.drop k) :=
  ⟨by simp [h.1], fun j a v ha hv => h.2 (k + j) a v (by simpa using ha) (by simpa using hv)⟩
theorem RVs.take {μ : Mu} {cs : List AV} {vs : List Value} (h : RVs O w μ cs vs) (k : Nat) : RVs O w μ (cs.take k) (vs.take k) :=
  ⟨by simp [h.1], fun j a v ha hv => by
    rw [List.getElem?_take] at ha hv
    split at ha
    · rename_i hlt; rw [if_pos hlt] at hv; exact h.2 j a v ha hv
    · cases ha⟩
theorem RVs.append {μ : Mu} {cs ds : List AV} {vs us : List Value} (h : RVs O w μ cs vs) (h' : RVs O w μ ds us) : RVs O w μ (cs ++ ds) (vs ++ us) :=
  ⟨by simp [h.1, h'.1], fun j a v ha hv => by
    rw [List.getElem?_append] at ha hv
    rw [h.1] at ha
    split at ha
    · rename_i hlt; rw [if_pos hlt] at hv; exact h.2 j a v ha hv
    · rename_i hlt; rw [if_neg hlt] at hv; exact h'.2 _ a v ha hv⟩
theorem RVs.at_ {μ : Mu} {cs : List AV} {vs : List Value} (h : RVs O w μ cs vs) {j : Nat} {a : AV} (ha : cs[j]? = some a) : ∃ v, vs[j]? = some v ∧ RV O w μ a v := by
  have hlt : j < vs.length := by rw [← h.1]; exact (List.getElem?_eq_some_iff.1 ha).1
  exact ⟨_, List.getElem?_eq_getElem hlt, h.2 j a _ ha (List.getElem?_eq_getElem hlt)⟩
end

/-! memory of one's own -/
structure AObj where
  T : TypeId
  sz : Nat
  n : Nat
  f : Nat → List AV
  st : Nat := 0
  pure : Bool := true
  box : Bool := false

def OO (X : Nat → Prop) (H : List AObj) (μ : Mu) (b : Nat) : Prop := X b ∨ ∃ i o m, H[i]? = some o ∧ o.st = 0 ∧ μ i = some (some (b, m))
/-- The cells of block b are the object o's. -/
structure ObjIn (O : Nat → Prop) (w : World) (μ : Mu) (b m : Nat) (o : AObj) (cur : Array Value) : Prop where
  blk : w.heap[b]? = some (.cells cur o.T (0, 0))
  size : cur.size = m * o.sz
  le : m ≤ maxLen
  nle : o.n ≤ m
  one : ∀ (k j : Nat) v, k < o.n → j < o.sz → cur[k * o.sz + j]? = some v → v.oneCell' = true
  flen : ∀ k, k < o.n → (o.f k).length = o.sz
  cell : ∀ (k j : Nat) a v, k < o.n → (o.f k)[j]? = some a → cur[k * o.sz + j]? = some v → RV O w (if o.pure then noMu else μ) a v
def ObjAt (O : Nat → Prop) (w : World) (μ : Mu) (i : Nat) (o : AObj) : Prop :=
  0 < o.sz ∧ ((μ i = some none ∧ o.n = 0) ∨ ∃ b m cur, μ i = some (some (b, m)) ∧ ObjIn O w μ b m o cur)
/-- The tables lie where they lie, and nobody writes them. -/
def GlobOk (X : Nat → Prop) (μ : Mu) (w : World) : Prop := ∀ g cs, (g, cs) ∈ globs → g < w.heap.size ∧ ¬ X g ∧ (∀ i m, μ i ≠ some (some (g, m))) ∧ ∀ (j : Nat) u, cs[j]? = some u → w.cell? ⟨g, j, none⟩ = some u
theorem GlobOk.stepC {X X' : Nat → Prop} {μ μ' : Mu} {w w' : World} (h : GlobOk X μ w) (hs : w.heap.size ≤ w'.heap.size) (hb : ∀ b, b < w.heap.size → ¬ X b → (∀ i m, μ i ≠ some (some (b, m))) → ∀ o u, w.cell? ⟨b, o, none⟩ = some u → w'.cell? ⟨b, o, none⟩ = some u)
    (hX : ∀ b, X' b → X b ∨ (∃ i m, μ i = some (some (b, m))) ∨ w.heap.size ≤ b) (hμ : ∀ i b m, μ' i = some (some (b, m)) → (∃ j m', μ j = some (some (b, m'))) ∨ X b ∨ w.heap.size ≤ b) : GlobOk X' μ' w' := fun g cs hg => by
  obtain ⟨h1, h2, h3, h4⟩ := h g cs hg
  refine ⟨by omega, fun hx => ?_, fun i m hi => ?_, fun j u hu => hb g h1 h2 h3 j u (h4 j u hu)⟩
  · rcases hX g hx with h | ⟨i, m, hi⟩ | h
    · exact h2 h
    · exact h3 i m hi
    · omega
  · rcases hμ i g m hi with ⟨j, m', hj⟩ | h | h
    · exact h3 j m' hj
    · exact h2 h
    · omega
theorem GlobOk.step {X X' : Nat → Prop} {μ μ' : Mu} {w w' : World} (h : GlobOk X μ w) (hs : w.heap.size ≤ w'.heap.size) (hb : ∀ b, b < w.heap.size → ¬ X b → (∀ i m, μ i ≠ some (some (b, m))) → w'.heap[b]? = w.heap[b]?)
    (hX : ∀ b, X' b → X b ∨ (∃ i m, μ i = some (some (b, m))) ∨ w.heap.size ≤ b) (hμ : ∀ i b m, μ' i = some (some (b, m)) → (∃ j m', μ j = some (some (b, m'))) ∨ X b ∨ w.heap.size ≤ b) : GlobOk X' μ' w' :=
  h.stepC hs (fun b h1 h2 h3 o u hu => (World.cell?_of_block (w := w) (hb b h1 h2 h3)).trans hu) hX hμ
theorem GlobOk.sub {X : Nat → Prop} {μ μ' : Mu} {w : World} (h : GlobOk X μ w) (hμ : ∀ b, (∃ i m, μ' i = some (some (b, m))) → ∃ i m, μ i = some (some (b, m))) : GlobOk X μ' w :=
  h.stepC (Nat.le_refl _) (fun _ _ _ _ _ _ hu => hu) (fun _ h => .inl h) fun i b m hi => .inl (hμ b ⟨i, m, hi⟩)
structure HRel (μ : Mu) (X : Nat → Prop) (H : List AObj) (w : World) : Prop where
  dom : ∀ i l, μ i = some l → i < H.length
  inj : ∀ i j b m m', μ i = some (some (b, m)) → μ j = some (some (b, m')) → i = j
  lt : ∀ i b m, μ i = some (some (b, m)) → b < w.heap.size ∧ ¬ X b
  obj : ∀ i o, H[i]? = some o → o.st < 2 → ObjAt (OO X H μ) w μ i o
  xlt : ∀ b, X b → b < w.heap.size
  gl : GlobOk X μ w
theorem HRel.glO {μ : Mu} {X : Nat → Prop} {H : List AObj} {w : World} (h : HRel μ X H w) : GlobOk (OO X H μ) noMu w :=
  h.gl.step (Nat.le_refl _) (fun _ _ _ _ => rfl) (fun b hb => hb.elim .inl fun ⟨i, o, m, _, _, hm⟩ => .inr (.inl ⟨i, m, hm⟩)) fun i b m h => (by cases h)

/-- From w to w' no block was written but those of one's own. -/
structure Chg (μ : Mu) (w w' : World) : Prop where
  os : w'.os = w.os
  tape : w'.tape = w.tape
  output : w'.output = w.output
  size : w.heap.size ≤ w'.heap.size
  block : ∀ k, k < w.heap.size → (∀ i m, μ i ≠ some (some (k, m))) → w'.heap[k]? = w.heap[k]?
/-- Blocks of one's own later on are such as were that, or new. -/
def Ext (μ : Mu) (w : World) (μ' : Mu) : Prop := ∀ i b m, μ' i = some (some (b, m)) → (∃ j m', μ j = some (some (b, m'))) ∨ w.heap.size ≤ b
theorem Chg.refl (μ : Mu) (w : World) : Chg μ w w := ⟨rfl, rfl, rfl, Nat.le_refl _, fun _ _ _ => rfl⟩
theorem Ext.refl (μ : Mu) (w : World) : Ext μ w μ := fun i b m h => .inl ⟨i, m, h⟩
theorem Chg.trans {μ μ' : Mu} {a b c : World} (h : Chg μ a b) (he : Ext μ a μ') (h' : Chg μ' b c) : Chg μ a c :=
  ⟨h'.os.trans h.os, h'.tape.trans h.tape, h'.output.trans h.output, Nat.le_trans h.size h'.size, fun k hk hn =>
    (h'.block k (Nat.lt_of_lt_of_le hk h.size) fun i m hi => by
      rcases he i k m hi with ⟨j, m', hj⟩ | hlt
      · exact hn j m' hj
      · omega).trans (h.block k hk hn)⟩
theorem Ext.trans {μ μ' μ'' : Mu} {a b : World} (hs : a.heap.size ≤ b.heap.size) (h : Ext μ a μ') (h' : Ext μ' b μ'') : Ext μ a μ'' := fun i x m hi => by
  rcases h' i x m hi with ⟨j, m', hj⟩ | hlt
  · exact h j x m' hj
  · exact .inr (by omega)
theorem Chg.below {w w' : World} (h : Chg noMu w w') : Below w.heap.size w w' := ⟨h.os, h.tape, h.output, h.size, fun k hk => h.block k hk fun i m hi => by cases hi⟩
theorem Chg.of_below {μ : Mu} {w w' : World} (h : Below w.heap.size w w') : Chg μ w w' := ⟨h.os, h.tape, h.output, h.size, fun k hk _ => h.block k hk⟩
theorem Chg.drew (μ : Mu) (w : World) : Chg μ w w.drew := ⟨rfl, rfl, rfl, Nat.le_refl _, fun _ _ _ => rfl⟩

section
variable {μ μ' : Mu} {X : Nat → Prop} {H H' : List AObj} {w w' : World}
theorem ObjAt.mono {O O' : Nat → Prop} {i : Nat} {o : AObj} (hO : ∀ b, b < w.heap.size → O' b → O b) (hw : ∀ b, b < w.heap.size → ¬ O b → w'.heap[b]? = w.heap[b]?) (hμ : ∀ i l, μ i = some l → μ' i = some l)
    (hb : ∀ b m, μ i = some (some (b, m)) → w'.heap[b]? = w.heap[b]?) (h : ObjAt O w μ i o) : ObjAt O' w' μ' i o := by
  refine ⟨h.1, ?_⟩
  rcases h.2 with ⟨h1, h2⟩ | ⟨b, m, cur, h1, h2⟩
  · exact .inl ⟨hμ _ _ h1, h2⟩
  · refine .inr ⟨b, m, cur, hμ _ _ h1, (hb b m h1).trans h2.blk, h2.size, h2.le, h2.nle, h2.one, h2.flen, fun k j a v hk ha hv => (h2.cell k j a v hk ha hv).mono hO hw _ fun i l hi => ?_⟩
    split
    · rename_i hp; rw [if_pos hp] at hi; exact hi
    · rename_i hp; rw [if_neg hp] at hi; exact hμ _ _ hi
/-- Only new blocks. -/
theorem HRel.below (h : HRel μ X H w) (hb : Below w.heap.size w w') : HRel μ X H w' :=
  ⟨h.dom, h.inj, fun i b m hi => ⟨Nat.lt_of_lt_of_le (h.lt i b m hi).1 hb.size, (h.lt i b m hi).2⟩, fun i o hi hs => (h.obj i o hi hs).mono (fun _ _ h => h) (fun b hlt _ => hb.block b hlt) (fun _ _ h => h) fun b m hm => hb.block b (h.lt i b m hm).1, fun b hx => Nat.lt_of_lt_of_le (h.xlt b hx) hb.size, h.gl.step hb.size (fun b hlt _ _ => hb.block b hlt) (fun _ h => .inl h) fun i b m h => .inl ⟨i, m, h⟩⟩
theorem ObjAt.monoC {O O' : Nat → Prop} {i : Nat} {o : AObj} (hO : ∀ b, b < w.heap.size → O' b → O b) (hs : w.heap.size ≤ w'.heap.size) (hw : ∀ b, b < w.heap.size → ¬ O b → ∀ o u, w.cell? ⟨b, o, none⟩ = some u → w'.cell? ⟨b, o, none⟩ = some u)
    (hb : ∀ b m, μ i = some (some (b, m)) → w'.heap[b]? = w.heap[b]?) (h : ObjAt O w μ i o) : ObjAt O' w' μ i o := by
  refine ⟨h.1, ?_⟩
  rcases h.2 with ⟨h1, h2⟩ | ⟨b, m, cur, h1, h2⟩
  · exact .inl ⟨h1, h2⟩
  · exact .inr ⟨b, m, cur, h1, (hb b m h1).trans h2.blk, h2.size, h2.le, h2.nle, h2.one, h2.flen, fun k j a v hk ha hv => (h2.cell k j a v hk ha hv).monoC hO hs hw _ fun i l hi => hi⟩
theorem RV.later {O : Nat → Prop} {a : AV} {v : Value} (h : RV O w μ a v) (hb : Below w.heap.size w w') : RV O w' μ a v := h.mono (fun _ _ h => h) (fun b hl _ => hb.block b hl) _ fun _ _ h => h
theorem RVs.later {O : Nat → Prop} {a : List AV} {v : List Value} (h : RVs O w μ a v) (hb : Below w.heap.size w w') : RVs O w' μ a v := h.mono (fun _ _ h => h) (fun b hl _ => hb.block b hl) fun _ _ h => h
end
end Go.Proofs.YthcoccoanpmhgaaDoor
