/- From the walk without memory to the rows: arguments that read as data (Sl) read so (RV); a function that keeps to itself, called from without. -/
import Derived.Test.YthcoccoanpmhgaaDoorADraw4
import Derived.Test.YthcoccoanpmhgaaDoorARange
namespace Go.Proofs.YthcoccoanpmhgaaDoor
open Go.RowKit
set_option linter.unusedVariables false
set_option linter.unusedSimpArgs false
set_option linter.unusedSectionVars false
variable {P : Program} {X : Nat → Prop} {H H' : List AObj} {μ μ' : Mu} {w w' : World} {O O' : Nat → Prop}
theorem reps_at {α : Type} {d : Kd α} : ∀ {xs : List α} {cs : List Value}, Reps d w O xs cs → cs.length = xs.length * d.sz ∧ ∀ (k : Nat) x, xs[k]? = some x → ∃ c, d.rel w O x c ∧ ∀ j, j < d.sz → cs[k * d.sz + j]? = c[j]?
  | [], cs, h => by
    have : cs = [] := h
    subst this
    exact ⟨by simp, fun k x h => by simp at h⟩
  | x :: xs, cs, h => by
    obtain ⟨c, r, rfl, h1, h2⟩ := h
    obtain ⟨g1, g2⟩ := reps_at h2
    have hl := d.len h1
    refine ⟨by simp [hl, g1, Nat.add_mul, Nat.add_comm], fun k y hk => ?_⟩
    cases k with
    | zero =>
      simp at hk; subst hk
      exact ⟨c, h1, fun j hj => by rw [List.getElem?_append_left (by omega)]; simp⟩
    | succ k =>
      obtain ⟨c', e1, e2⟩ := g2 k y (by simpa using hk)
      refine ⟨c', e1, fun j hj => ?_⟩
      rw [List.getElem?_append_right (by rw [Nat.add_mul]; omega), ← e2 j hj]
      congr 1
      rw [Nat.add_mul]; omega
theorem reps_one {α : Type} {d : Kd α} : ∀ {xs : List α} {cs : List Value}, Reps d w O xs cs → ∀ u ∈ cs, u.oneCell' = true
  | [], cs, h, u, hu => by
    have : cs = [] := h
    subst this; cases hu
  | x :: xs, cs, h, u, hu => by
    obtain ⟨c, r, rfl, h1, h2⟩ := h
    rcases List.mem_append.1 hu with h | h
    · exact d.one h1 u h
    · exact reps_one h2 u h
theorem spot_none {a : Addr} {u : Value} (h : w.cell? a = some u) : a.spot = none := by
  unfold World.cell? at h
  split at h
  · cases hs : a.spot with
    | none => rfl
    | some s => rw [hs] at h; simp at h
  · cases h
theorem rv_sl {α : Type} {d : Kd α} {enc : α → List AV} (z : α) (he : ∀ x cs, d.rel w O x cs → RVs O w noMu (enc x) cs) (hl : ∀ x, (enc x).length = d.sz) (hz : 0 < d.sz) {v : Value} {xs : List α} (h : Sl d w O v xs) :
    RV O w μ (.sl d.sz xs.length false fun k => enc (xs.getD k z)) v := by
  obtain ⟨A, c, rfl, h1, h2, h3⟩ := h
  by_cases hx : xs = []
  · subst hx
    exact .sl (vs := []) (by simp) h1 h2 (fun h => by cases h) (by simp) (fun k hk => by simp at hk) (fun k j a v hk => by simp at hk) hz fun h => (h rfl).elim
  · obtain ⟨a, cs, rfl, h4, h5, h6⟩ := h3 hx
    obtain ⟨g1, g2⟩ := reps_at h5
    refine .sl (vs := cs) (reps_one h5) h1 h2 (fun h => by cases h) g1 (fun k hk => hl _) (fun k j a v hk ha hv => ?_) hz fun _ => ?_
    · obtain ⟨c', e1, e2⟩ := g2 k _ (List.getElem?_eq_getElem hk)
      have hj : j < d.sz := by rw [← hl (xs.getD k z)]; exact (List.getElem?_eq_some_iff.1 ha).1
      rw [e2 j hj] at hv
      have : xs.getD k z = xs[k] := by simp [List.getD_eq_getElem?_getD, hk]
      rw [this] at ha
      exact (he _ _ e1).2 j a v ha hv
    · have hlen : 0 < cs.length := by
        rw [g1]
        exact Nat.mul_pos (List.length_pos_iff.2 hx) hz
      have h0 := h6 0 _ (List.getElem?_eq_getElem hlen)
      have hs := spot_none h0
      have ha : a = ⟨a.block, a.off, none⟩ := by
        simp only [Addr.add, if_pos] at hs
        cases a; simp_all
      refine ⟨a.block, a.off, by rw [← ha], h4, fun j u hu => ?_⟩
      have := h6 j u hu
      unfold Addr.add at this
      split at this
      · rename_i hj; subst hj; rw [ha] at this; exact this
      · exact this
theorem run_apure {f : FuncId} {args : List AV} {N : List AObj} {v : Value} (h : APure P f args (.lit v) N) (hgl : GlobOk (fun _ => False) noMu w) {vs : List Value} (hv : RVs (fun _ => False) w noMu args vs) : Calls P f vs.toArray w fun e w' => e = .returned v ∧ Below w.heap.size w w' := by
  refine (h w (fun _ => False) noMu vs ⟨fun i l h => (by cases h), fun i j b m m' h => (by cases h), fun i b m h => (by cases h), fun i o h => (by simp at h), fun b h => h.elim, hgl⟩ ⟨hv.1, fun j a v ha hu => (hv.2 j a v ha hu).mono (fun b _ hb => hb.elim id fun ⟨i, o, m, hi, _⟩ => (by simp at hi)) (fun _ _ _ => rfl) _ fun _ _ h => h⟩).mono fun e w' he => ?_
  obtain ⟨u, r', H1, fg1, μ1, rfl, ⟨rfl, rfl⟩, g1, g2, g3, g4, _, _⟩ := he
  cases g2
  exact ⟨rfl, g3.below⟩
theorem LeS.setn : ∀ {s : List AV} {t : Nat} {x y : AV}, nth s t = some x → AV.Le x y → LeS s (setn s t y)
  | [], t, x, y, h, _ => by simp [nth] at h
  | a :: s, 0, x, y, h, hl => by simp only [nth] at h; injection h with h; subst h; exact .cons hl (.refl _)
  | a :: s, t + 1, x, y, h, hl => .cons (.refl _) (LeS.setn (s := s) (t := t) h hl)
/-- One slot, in other words. -/
theorem Tells.slot (t : Nat) (y : AV) {s : List AV} {H : List AObj} {fg : List Nat} {nb : YB} {x : AV} (h : nth s t = some x) (hl : AV.Le x y) : Tells ⟨s, H, fg, nb⟩ ⟨setn s t y, H, fg, nb⟩ := Tells.le (LeS.setn h hl) (.refl _)
theorem aw_loopy {P : Program} {r : Option Nat} {Q : Exit → St → Prop} {c : Code} {ι : Type} {s : List AV} {H0 : List AObj} {fg : List Nat} {nb : YB} (ws : List Nat) (g : ι → List (Nat × AV)) (Hs : ι → List AObj) (nbs : ι → YB) (m : ι → Nat) (i0 : ι) (h0 : Tells ⟨s, H0, fg, nb⟩ (lst s fg (nbs i0) ws (g i0) (Hs i0)))
    (round : ∀ i, AW P r c (Then (fun σ' => ∃ j, m j < m i ∧ Tells σ' (lst s fg (nbs j) ws (g j) (Hs j))) Q) (lst s fg (nbs i) ws (g i) (Hs i))) : AW P r (.loop c) Q ⟨s, H0, fg, nb⟩ :=
  aw_loop (fun i => lst s fg (nbs i) ws (g i) (Hs i)) m i0 h0 round
theorem iterp {n : Nat} {σ : St} (h : σ.nb.stop = false → σ.nb.y = n) : IterP n .normal σ ∧ IterP n .ret σ := ⟨h, h⟩
theorem roundp {s : List AV} {k0 k : Nat} {H' : List AObj} {σ' : St} (σ'' : St) (ht : Tells σ' σ'') (hH : σ''.H = H') (hs : LeS (s.map (fgs (fgk k σ''.fg))) s) (hf : (σ''.fg.all fun i => Nat.ble k0 i) = true) : RoundP s k0 k H' .normal σ' := ⟨σ'', ht, hH, hs, hf⟩
theorem round_end {n : St → Prop} {Q : Exit → St → Prop} {σ : St} (h : n σ) : Then n Q .normal σ := h
theorem al_pureE {tab : Tab} {r : Option Nat} {l R : List Oper} {Q : Exit → St → Prop} {σ : St} {o : Oper} (hT : TabOk P tab) (hw : wantA l σ o = some true) {x : AV} (h : ∃ q, aPure tab σ.H σ.ev o.op = some (q, x) ∧ q) (next : AL P r l Q R (σ.put o.dst x)) : AL P r l Q (o :: R) σ := by
  obtain ⟨q, h, hq⟩ := h
  exact al_pure hT hw h hq next
end Go.Proofs.YthcoccoanpmhgaaDoor
