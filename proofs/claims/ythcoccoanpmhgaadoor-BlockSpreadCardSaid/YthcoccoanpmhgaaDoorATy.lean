/- Types as a walk sees them: a table, checked against the program's own; loads and values by type. -/
import Derived.Test.YthcoccoanpmhgaaDoorAv
namespace Go.Proofs.YthcoccoanpmhgaaDoor
open Go.RowKit
set_option linter.unusedVariables false
set_option linter.unusedSimpArgs false

inductive TyK where
  | int (k : IntKind) | bool | str | ptr (e : TypeId) | slice (e : TypeId) | arr (n : Nat) (e : TypeId) | struct (fs : List (Nat × TypeId)) | iface | map (k e : TypeId) | func | other
structure TyI where
  k : TyK
  sz : Nat
  by_ : Nat
  zero : List Value
abbrev Tab := TypeId → Option TyI
def TyK.isAgg : TyK → Bool
  | .arr _ _ | .struct _ => true
  | _ => false
def TyI.zeroCells (i : TyI) : List Value := match i.k with | .arr n _ => (List.replicate n i.zero).flatten | _ => i.zero
def mkV (i : TyI) (vs : List Value) : Value := if i.k.isAgg then .agg vs.toArray else vs.headD undef
def UndOk (P : Program) (t : TypeId) : TyK → Prop
  | .int k => P.underlying t = some (.int k)
  | .bool => P.underlying t = some .bool
  | .str => P.underlying t = some .string
  | .ptr e => P.underlying t = some (.pointer e)
  | .slice e => P.underlying t = some (.slice e)
  | .arr n e => P.underlying t = some (.array n e)
  | .struct fs => ∃ fields : Array Field, P.underlying t = some (.struct fields) ∧ fields.toList.map (fun f => (f.offset, f.type)) = fs
  | .iface => ∃ ms, P.underlying t = some (.interface ms)
  | .map k e => P.underlying t = some (.map k e)
  | .func => ∃ a b c, P.underlying t = some (.func a b c)
  | .other => ∃ d, P.underlying t = some d ∧ d.isRow = false
structure TyOk (P : Program) (t : TypeId) (i : TyI) : Prop where
  info : ∃ f, P.info? t = some f ∧ f.size = i.sz ∧ f.bytes = i.by_ ∧ ∃ z, f.zero = some z ∧ z.cells.toList = i.zeroCells
  one : i.k.isAgg = false → i.sz = 1
  zlen : i.zeroCells.length = i.sz
  zone : ∀ u ∈ i.zeroCells, u.oneCell' = true
  und : UndOk P t i.k
def TabOk (P : Program) (tab : Tab) : Prop := ∀ t i, tab t = some i → TyOk P t i

def zeq : Value → Value → Bool
  | .int k a, .int k' b => decide (k = k') && a == b
  | .bool a, .bool b => a == b
  | .string a, .string b => a.data.toList == b.data.toList
  | .pointer none, .pointer none => true
  | .slice none 0 0, .slice none 0 0 => true
  | .map none, .map none => true
  | .chan none, .chan none => true
  | .nilFunc, .nilFunc => true
  | .nilIface, .nilIface => true
  | _, _ => false
theorem zeq_eq {a b : Value} (h : zeq a b = true) : a = b := by
  unfold zeq at h
  split at h <;> simp_all
  rename_i a b
  cases a; cases b
  congr
def zeqs : List Value → List Value → Bool
  | [], [] => true
  | a :: x, b :: y => zeq a b && zeqs x y
  | _, _ => false
theorem zeqs_eq : ∀ {x y : List Value}, zeqs x y = true → x = y
  | [], [], _ => rfl
  | [], _ :: _, h => by cases h
  | _ :: _, [], h => by cases h
  | a :: x, b :: y, h => by
    simp only [zeqs, Bool.and_eq_true] at h
    rw [zeq_eq h.1, zeqs_eq h.2]
def undB (P : Program) (t : TypeId) : TyK → Bool
  | .int k => match P.underlying t with | some (.int k') => decide (k' = k) | _ => false
  | .bool => match P.underlying t with | some .bool => true | _ => false
  | .str => match P.underlying t with | some .string => true | _ => false
  | .ptr e => match P.underlying t with | some (.pointer e') => e' == e | _ => false
  | .slice e => match P.underlying t with | some (.slice e') => e' == e | _ => false
  | .arr n e => match P.underlying t with | some (.array n' e') => n' == n && e' == e | _ => false
  | .struct fs => match P.underlying t with | some (.struct fields) => (fields.toList.map fun f => (f.offset, f.type)) == fs | _ => false
  | .iface => match P.underlying t with | some (.interface _) => true | _ => false
  | .map k e => match P.underlying t with | some (.map k' e') => k' == k && e' == e | _ => false
  | .func => match P.underlying t with | some (.func _ _ _) => true | _ => false
  | .other => match P.underlying t with | some d => !d.isRow | none => false
theorem undB_ok {P : Program} {t : TypeId} {k : TyK} (h : undB P t k = true) : UndOk P t k := by
  cases k <;> simp only [undB] at h <;> simp only [UndOk] <;> split at h <;> simp_all
def tyB (P : Program) (t : TypeId) (i : TyI) : Bool :=
  (match P.info? t with
    | some f => f.size == i.sz && f.bytes == i.by_ && (match f.zero with | some z => zeqs z.cells.toList i.zeroCells | none => false)
    | none => false) && (i.k.isAgg || i.sz == 1) && i.zeroCells.length == i.sz && i.zeroCells.all (·.oneCell') && undB P t i.k
theorem tyB_ok {P : Program} {t : TypeId} {i : TyI} (h : tyB P t i = true) : TyOk P t i := by
  unfold tyB at h
  simp only [Bool.and_eq_true] at h
  obtain ⟨⟨⟨⟨h1, h2⟩, h3⟩, h4⟩, h5⟩ := h
  refine ⟨?_, fun hk => ?_, by simpa using h3, by simpa using h4, undB_ok h5⟩
  · split at h1
    · rename_i f hf
      simp only [Bool.and_eq_true, beq_iff_eq] at h1
      obtain ⟨⟨ha, hb⟩, hc⟩ := h1
      split at hc
      · rename_i z hz; exact ⟨f, hf, ha, hb, z, hz, zeqs_eq hc⟩
      · cases hc
    · cases h1
  · rw [hk] at h2; simpa using h2
def tabOf (l : List (TypeId × TyI)) : Tab := fun t => (l.find? fun p => Nat.beq p.1 t).map (·.2)
theorem tabOf_ok {P : Program} {l : List (TypeId × TyI)} (h : (l.all fun p => tyB P p.1 p.2) = true) : TabOk P (tabOf l) := by
  intro t i hi
  unfold tabOf at hi
  cases hf : l.find? fun p => Nat.beq p.1 t with
  | none => rw [hf] at hi; cases hi
  | some p =>
    rw [hf] at hi
    simp at hi
    subst hi
    have h1 := List.find?_some hf
    have h2 := List.mem_of_find?_eq_some hf
    have h3 := List.all_eq_true.1 h p h2
    have : p.1 = t := Nat.eq_of_beq_eq_true h1
    rw [← this]
    exact tyB_ok h3

section
variable {P : Program} {tab : Tab} {t : TypeId} {i : TyI} {w : World}
theorem TyOk.size (h : TyOk P t i) : (P.info? t).map (·.size) = some i.sz := by obtain ⟨f, hf, hs, _⟩ := h.info; rw [hf]; simp [hs]
theorem TyOk.run_size (h : TyOk P t i) : (sizeOf t).run P w = .ok i.sz w := by
  obtain ⟨f, hf, hs, _⟩ := h.info
  simp [sizeOf, typeInfo, hf, hs]
theorem TyOk.row (h : TyOk P t i) : ∃ d, P.underlying t = some d ∧ d.isRow = i.k.isAgg := by
  have hu := h.und
  cases hk : i.k <;> rw [hk] at hu <;> simp only [UndOk] at hu
  case struct fs => obtain ⟨fields, hf, _⟩ := hu; exact ⟨_, hf, rfl⟩
  case iface => obtain ⟨ms, hf⟩ := hu; exact ⟨_, hf, rfl⟩
  case func => obtain ⟨a, b, c, hf⟩ := hu; exact ⟨_, hf, rfl⟩
  case other => exact hu
  all_goals exact ⟨_, hu, rfl⟩
theorem TyOk.isAgg (h : TyOk P t i) : (isAgg t).run P w = .ok i.k.isAgg w := by
  obtain ⟨d, hd, he⟩ := h.row
  unfold Go.isAgg
  rw [Sem.run_bind, run_underlying hd w]
  rw [← he]
  cases d <;> rfl
theorem TyOk.zero (h : TyOk P t i) : ∃ z, (zeroValue t).run P w = .ok z w ∧ z.cells.toList = i.zeroCells := by
  obtain ⟨f, hf, _, _, z, hz, hc⟩ := h.info
  exact ⟨z, by simp [zeroValue, typeInfo, hf, hz], hc⟩
/-- The cells vs lie at b, o: a load gives them. -/
theorem run_load_cells (h : TyOk P t i) {b o : Nat} {vs : List Value} (hl : vs.length = i.sz) (hc : w.rangeAt b o vs) :
    (Instr.loadAt t (.pointer (some ⟨b, o, none⟩))).run P w = .ok (mkV i vs) w := by
  obtain ⟨d, hd, he⟩ := h.row
  unfold mkV
  by_cases hk : i.k.isAgg = true
  · rw [if_pos hk]
    exact run_loadAt_mid w b o t vs d hc hd (he.trans hk) (by rw [h.size, hl])
  · rw [if_neg hk]
    have hk : i.k.isAgg = false := by simpa using hk
    have h1 : vs.length = 1 := by rw [hl, h.one hk]
    obtain ⟨v, rfl⟩ : ∃ v, vs = [v] := by
      match vs, h1 with
      | [v], _ => exact ⟨v, rfl⟩
    have hcell := hc 0 v rfl
    simp only [Nat.add_zero] at hcell
    simp [Instr.loadAt, Instr.sureAddr, loadVar, h.isAgg, hk, run_load, hcell]
end

def mkT (tab : Tab) (i : TyI) (cs : List AV) : Option AV :=
  match i.k with
  | .struct _ => some (.agg cs)
  | .arr _ _ => some (.agg cs)
  | _ => match cs with | [a] => some a | _ => none
theorem mkT_rv {O : Nat → Prop} {w : World} {μ : Mu} {tab : Tab} {i : TyI} {cs : List AV} {vs : List Value} {r : AV} (h : mkT tab i cs = some r) (hr : RVs O w μ cs vs) : RV O w μ r (mkV i vs) := by
  unfold mkT at h
  unfold mkV
  cases hk : i.k <;> rw [hk] at h <;> simp only [TyK.isAgg] at h ⊢
  case struct fs => injection h with h; subst h; exact .agg hr.1 hr.2
  case arr => injection h with h; subst h; exact .agg hr.1 hr.2
  all_goals
    split at h
    · injection h with h
      subst h
      obtain ⟨v, us, rfl, h1, _⟩ := hr.uncons
      exact h1
    · cases h
def nth {α : Type} : List α → Nat → Option α
  | [], _ => none
  | x :: _, 0 => some x
  | _ :: l, n + 1 => nth l n
theorem nth_eq {α : Type} : ∀ (l : List α) (n : Nat), nth l n = l[n]?
  | [], _ => by simp [nth]
  | _ :: _, 0 => by simp [nth]
  | _ :: l, n + 1 => by simp [nth, nth_eq l n]
def setn {α : Type} : List α → Nat → α → List α
  | [], _, _ => []
  | _ :: l, 0, y => y :: l
  | x :: l, n + 1, y => x :: setn l n y
theorem setn_eq {α : Type} : ∀ (l : List α) (n : Nat) (y : α), setn l n y = l.set n y
  | [], _, _ => by simp [setn]
  | _ :: _, 0, _ => by simp [setn]
  | _ :: l, n + 1, y => by simp [setn, setn_eq l n y]
end Go.Proofs.YthcoccoanpmhgaaDoor
