/- Layer 3, plain: a round can be undone. -/
import Derived.Test.YthcoccoanpmhgaaDoorBlkMix
namespace Go.Proofs.YthcoccoanpmhgaaDoor
set_option linter.unusedVariables false
set_option linter.unusedSimpArgs false
theorem rnd_inj {s s' : St} {n w : UInt32} (h : rnd s n w = rnd s' n w) : s = s' := by
  obtain ⟨a, b, c, d, e, f, g, z⟩ := s
  obtain ⟨a', b', c', d', e', f', g', z'⟩ := s'
  unfold rnd at h
  simp only [St.mk.injEq] at h
  obtain ⟨h1, rfl, rfl, rfl, h5, rfl, rfl, rfl⟩ := h
  have hq : rq ⟨a, b, c, d, e, f, g, z⟩ = rq ⟨a, b, c, d', e, f, g, z'⟩ := rfl
  have hp : rp ⟨a, b, c, d, e, f, g, z⟩ n w = rp ⟨a, b, c, d', e, f, g, z'⟩ n w := by
    rw [hq] at h1; exact (UInt32.add_left_inj _).1 h1
  rw [hp] at h5
  have hd : d = d' := (UInt32.add_left_inj _).1 h5
  have hz : z = z' := by
    unfold rp at hp
    simp only at hp
    exact (UInt32.add_left_inj _).1 ((UInt32.add_left_inj _).1 ((UInt32.add_left_inj _).1 ((UInt32.add_left_inj _).1 hp)))
  rw [hd, hz]
theorem rounds_inj {b : List UInt8} {s s' : St} : ∀ {t : Nat}, rounds b s t = rounds b s' t → s = s'
  | 0, h => h
  | t + 1, h => rounds_inj (t := t) (rnd_inj h)
theorem St.list_inj {s s' : St} (h : s.list = s'.list) : s = s' := by
  obtain ⟨a, b, c, d, e, f, g, z⟩ := s
  obtain ⟨a', b', c', d', e', f', g', z'⟩ := s'
  simp [St.list] at h
  simp [h]
theorem stOf_list {h : List UInt32} (hh : h.length = 8) : (stOf h).list = h := by
  match h, hh with
  | [_, _, _, _, _, _, _, _], _ => rfl
/-- What the mixing added. -/
def added (h : List UInt32) (b : List UInt8) : List UInt32 := (rounds b (stOf h) 64).list
theorem added_len (h : List UInt32) (b : List UInt8) : (added h b).length = 8 := rfl
theorem mix_sub (h : List UInt32) (b : List UInt8) (hh : h.length = 8) (n : Nat) (hn : n < 8) : (mix h b).getD n 0 - h.getD n 0 = (added h b).getD n 0 := by
  have h1 : n < (added h b).length := by rw [added_len]; exact hn
  unfold mix
  show (List.zipWith (· + ·) h (added h b)).getD n 0 - _ = _
  simp only [List.getD_eq_getElem?_getD]
  rw [List.getElem?_eq_getElem (show n < (List.zipWith (· + ·) h (added h b)).length by rw [List.length_zipWith, hh, added_len]; omega), List.getElem?_eq_getElem (show n < h.length by omega), List.getElem?_eq_getElem h1]
  simp only [List.getElem_zipWith, Option.getD_some]
  rw [UInt32.add_comm, UInt32.add_sub_cancel]
theorem added_inj {h g : List UInt32} {b : List UInt8} (hh : h.length = 8) (hg : g.length = 8) (e : added h b = added g b) : h = g := by
  have := rounds_inj (St.list_inj e)
  rw [← stOf_list hh, ← stOf_list hg, this]
theorem xor_zero_iff (a x : UInt32) : a ^^^ x = a ↔ x = 0 := by
  constructor
  · intro h
    have := congrArg (a ^^^ ·) h
    simpa [← UInt32.xor_assoc] using this
  · rintro rfl; simp
/-- Are the first n alike? -/
def alike (u v : List UInt32) (n : Nat) : Bool := (List.range n).all fun i => u.getD i 0 == v.getD i 0
theorem alike_succ (u v : List UInt32) (n : Nat) : alike u v (n + 1) = (alike u v n && (u.getD n 0 == v.getD n 0)) := by
  simp [alike, List.range_succ]
theorem alike_8 (u v : List UInt32) (hu : u.length = 8) (hv : v.length = 8) : alike u v 8 = decide (u = v) := by
  rw [Bool.eq_iff_iff, decide_eq_true_eq]
  simp only [alike, List.all_eq_true, List.mem_range, beq_iff_eq]
  constructor
  · intro h
    apply List.ext_getElem (by omega)
    intro i h1 h2
    have := h i (by omega)
    simpa [List.getD_eq_getElem?_getD, h1, h2] using this
  · rintro rfl; intros; rfl
theorem undo_law (h : List UInt32) (b : List UInt8) (hh : h.length = 8) (i : Nat) (hi : i < 8) (x : UInt32) :
    alike (added h b) (added (h.set i (h.getD i 0 ^^^ x)) b) 8 = decide (x = 0) := by
  rw [alike_8 _ _ rfl rfl, decide_eq_decide]
  constructor
  · intro e
    have := added_inj hh (by rw [List.length_set]; exact hh) e
    have h1 := congrArg (·.getD i 0) this
    simp [List.getD_eq_getElem?_getD, List.getElem?_set, show i < h.length by omega] at h1
    exact (xor_zero_iff _ _).1 h1.symm
  · rintro rfl
    congr 1
    apply List.ext_getElem (by simp)
    intro j h1 h2
    rw [List.getElem_set]
    split
    · rename_i hj; subst hj; simp [List.getD_eq_getElem?_getD, h1]
    · rfl
end Go.Proofs.YthcoccoanpmhgaaDoor
