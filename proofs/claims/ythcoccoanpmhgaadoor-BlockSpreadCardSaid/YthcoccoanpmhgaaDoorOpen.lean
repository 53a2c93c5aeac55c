/- What an argument reads as, opened: the kinds of XLib out of the form's own reading. -/
import Derived.Test.YthcoccoanpmhgaaDoorLib
import Derived.ChangeArms
import Derived.ProofKit
namespace Go.Proofs.YthcoccoanpmhgaaDoor
open Go.RowKit
set_option linter.unusedVariables false
set_option linter.unusedSimpArgs false
/-- A datum of type t reads as one of kind d. -/
def Opens {α : Type} (P : Program) (t : TypeId) (d : Kd α) : Prop :=
  ∀ {H : Type} (enc : TypeId × Value → H) (w : World) (base : Nat) (sp : Nat → Bool) (held : Bool) (fuel : Nat) (cs : List Value) (x : DataW H × List MemPlace), DataW.trod enc P w base sp held fuel t cs = some x → ∃ y, d.rel w (fun _ => False) y cs
section
variable {P : Program} {t e : TypeId}
theorem opens_u8 (ht : P.underlying t = some (.int .u8)) : Opens P t kU8 := by
  intro H enc w base sp held fuel cs x h
  obtain ⟨n, rfl, _, hw⟩ := DataW.trod_int ht h
  refine ⟨UInt8.ofNat n.toNat, ?_⟩
  simp [Lit.wf, IntKind.min, IntKind.max, IntKind.signed, IntKind.bits] at hw
  show [Value.int .u8 n] = [Value.int .u8 ((UInt8.ofNat n.toNat).toNat : Int)]
  rw [UInt8.toNat_ofNat']
  have : ((n.toNat % 2 ^ 8 : Nat) : Int) = n := by omega
  rw [this]
theorem opens_i64 (ht : P.underlying t = some (.int .i64)) : Opens P t kI64 := by
  intro H enc w base sp held fuel cs x h
  obtain ⟨n, rfl, _, _⟩ := DataW.trod_int ht h
  exact ⟨n, rfl⟩
theorem opens_bool (ht : P.underlying t = some .bool) : Opens P t kBool := by
  intro H enc w base sp held fuel cs x h
  obtain ⟨n, rfl, _⟩ := DataW.trod_bool ht h
  exact ⟨n, rfl⟩
theorem reps_of {α : Type} {d : Kd α} {w : World} {O : Nat → Prop} {a : Addr} : ∀ (n o : Nat), (∀ i, i < n → ∃ cs y, cs.length = d.sz ∧ (∀ j, j < d.sz → w.cell? (a.add (o + i * d.sz + j)) = cs[j]?) ∧ d.rel w O y cs) →
    ∃ (ys : List α) (cs : List Value), ys.length = n ∧ Reps d w O ys cs ∧ ∀ j u, cs[j]? = some u → w.cell? (a.add (o + j)) = some u
  | 0, o, _ => ⟨[], [], rfl, rfl, fun j u h => by simp at h⟩
  | n + 1, o, h => by
    obtain ⟨c, y, hl, hc, hr⟩ := h 0 (by omega)
    obtain ⟨ys, cs, h1, h2, h3⟩ := reps_of n (o + d.sz) (fun i hi => by
      obtain ⟨c, y, hl, hc, hr⟩ := h (i + 1) (by omega)
      refine ⟨c, y, hl, fun j hj => ?_, hr⟩
      rw [← hc j hj]
      congr 2
      rw [Nat.add_mul]
      omega)
    refine ⟨y :: ys, c ++ cs, by simp [h1], ⟨c, cs, rfl, hr, h2⟩, fun j u hu => ?_⟩
    by_cases hj : j < d.sz
    · rw [List.getElem?_append_left (by omega)] at hu
      have := hc j hj
      simp only [Nat.zero_mul, Nat.add_zero] at this
      rw [this]; exact hu
    · rw [List.getElem?_append_right (by omega)] at hu
      have := h3 _ u hu
      rw [hl] at this
      rw [show o + j = o + d.sz + (j - d.sz) by omega]
      exact this
theorem opens_sl {α : Type} {d : Kd α} (hs : 0 < d.sz) (ht : P.underlying t = some (.slice e)) (hc : P.cellsOf e = d.sz) (he : Opens P e d) : Opens P t (d.sl hs) := by
  intro H enc w base sp held fuel cs x h
  rcases DataW.trod_slice ht h with ⟨rfl, _⟩ | ⟨a, len, cap, elems, rest, n, _, rfl, _, hb, hl, hm, hlen, hel, _⟩
  · exact ⟨[], _, rfl, Sl.nil_ _ _ _⟩
  · obtain ⟨ys, cs, h1, h2, h3⟩ := reps_of (d := d) (w := w) (O := fun _ => False) (a := a) len 0 (fun i hi => by
      have h1 := hel i hi
      rw [List.getElem?_eq_getElem (by omega)] at h1
      obtain ⟨c, hcells, htr⟩ := Option.bind_eq_some_iff.1 h1
      obtain ⟨y, hy⟩ := he enc w base sp held n c _ htr
      obtain ⟨_, hcl, hcj⟩ := World.cells?_some hcells
      rw [hc] at hcl hcj
      refine ⟨c, y, hcl, fun j hj => ?_, hy⟩
      rw [← hcj j hj, addr_add, Nat.zero_add])
    subst h1
    exact ⟨ys, _, rfl, some a, cap, rfl, hl, hm, fun _ => ⟨a, cs, rfl, fun h => h, h2, fun j u hu => by have := h3 j u hu; rwa [Nat.zero_add] at this⟩⟩
end
/-- An argument that is a slice. -/
theorem arg_sl {H : Type} {enc : TypeId × Value → H} {P : Program} {w : World} {base : Nat} {sp : Nat → Bool} {held : Bool} {t : TypeId} {A : Option Addr} {n c : Nat} {dd : DataW H} {ps : List MemPlace} {α : Type} {d : Kd α} {hs : 0 < d.sz} (ho : Opens P t (d.sl hs))
    (h : DataW.Trod enc P w base sp held t (.slice A n c) dd ps) : ∃ xs, Sl d w (fun _ => False) (.slice A n c) xs := by
  obtain ⟨fuel, h⟩ := h
  obtain ⟨xs, u, hu, hsl⟩ := ho enc w base sp held fuel _ _ h
  have : Value.slice A n c = u := by simpa [Value.cells] using hu
  exact ⟨xs, this ▸ hsl⟩
end Go.Proofs.YthcoccoanpmhgaaDoor
