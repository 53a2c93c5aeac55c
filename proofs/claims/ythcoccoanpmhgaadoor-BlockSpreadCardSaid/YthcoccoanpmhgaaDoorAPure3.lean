/- Operations that write nothing: indexes, cuts, literals, conversions; all of them (aPure). -/
import Derived.Test.YthcoccoanpmhgaaDoorAPure2
namespace Go.Proofs.YthcoccoanpmhgaaDoor
open Go.RowKit
set_option linter.unusedVariables false
set_option linter.unusedSimpArgs false
set_option linter.unusedSectionVars false
variable {P : Program} {tab : Tab} {X : Nat → Prop} {H : List AObj} {μ : Mu} {w : World} {O : Nat → Prop}

def aIndex (tab : Tab) (t : TypeId) (x ix : AV) : Ans :=
  match tab t, ix with
  | some i, .lit (.int _ z) => match i.k, x with
    | .arr n e, .arr sz m f => match tab e with
      | some ei => match Nat.beq ei.sz sz, Nat.beq m n with
        | true, true => (mkT tab ei (f z.toNat)).map fun r => (0 ≤ z ∧ z < n, r)
        | _, _ => none
      | none => none
    | .arr n e, .agg cs => match tab e with
      | some ei => (mkT tab ei ((cs.drop (z.toNat * ei.sz)).take ei.sz)).map fun r => (0 ≤ z ∧ z < n ∧ cs.length = n * ei.sz, r)
      | none => none
    | _, _ => none
  | _, _ => none
theorem index_run (hT : TabOk P tab) {t n e : TypeId} {i ei : TyI} (hu : P.underlying t = some (.array n e)) (he : tab e = some ei) {z : Int} {kd : IntKind} (q1 : 0 ≤ z) (q2 : z < n) {vs : List Value} {cs : List AV} {r : AV} (hm : mkT tab ei cs = some r)
    {us : List Value} (hr : RVs O w μ cs us) (hl : us.length = ei.sz) (hc : ∀ j v, us[j]? = some v → vs[z.toNat * ei.sz + j]? = some v) :
    ∃ u, (Instr.index t (.agg vs.toArray) (.int kd z)).run P w = .ok u w ∧ RV O w μ r u := by
  have hz := (hT e ei he).run_size (w := w)
  have hp := run_part_cells (w := w) (hT e ei he) (cs := vs.toArray) (off := z.toNat * ei.sz) hl (by simpa using hc)
  refine ⟨_, ?_, mkT_rv hm hr⟩
  simp [Instr.index, asIntOf, run_underlying hu, q1, q2, hz, hp]
theorem index_sound (hT : TabOk P tab) {t : TypeId} {x ix r : AV} {q : Prop} (h : aIndex tab t x ix = some (q, r)) (hq : q) {v y : Value} (hv : RV O w μ x v) (hy : RV O w μ ix y) :
    ∃ u, (Instr.index t v y).run P w = .ok u w ∧ RV O w μ r u := by
  unfold aIndex at h
  split at h
  · rename_i i kd z hi
    have hu := (hT t i hi).und
    cases hy
    split at h
    · rename_i n e sz m f hk
      rw [hk] at hu
      split at h
      · rename_i ei he
        split at h
        · rename_i hb hb2
          obtain rfl := beq_t hb
          obtain rfl := beq_t hb2
          simp only [Option.map_eq_some_iff, Prod.mk.injEq] at h
          obtain ⟨r, hm, rfl, rfl⟩ := h
          obtain ⟨q1, q2⟩ := hq
          cases hv with
          | arr g0 g1 g2 g3 =>
            rename_i vs
            have hk0 : z.toNat < m := by omega
            have hle : (z.toNat + 1) * ei.sz ≤ vs.length := by rw [g1]; exact Nat.mul_le_mul_right _ (by omega)
            rw [Nat.add_mul] at hle
            have hg : ∀ j v, ((vs.drop (z.toNat * ei.sz)).take ei.sz)[j]? = some v → vs[z.toNat * ei.sz + j]? = some v := fun j v hv => by
              rw [List.getElem?_take] at hv
              split at hv
              · simpa using hv
              · cases hv
            exact index_run hT (i := i) hu he q1 q2 hm (us := (vs.drop (z.toNat * ei.sz)).take ei.sz) ⟨by rw [g2 _ hk0]; simp; omega, fun j a v ha hv => (g3 _ j a v hk0 ha (hg j v hv)).up⟩ (by simp; omega) hg
        · cases h
      · cases h
    · rename_i n e cs hk
      rw [hk] at hu
      split at h
      · rename_i ei he
        simp only [Option.map_eq_some_iff, Prod.mk.injEq] at h
        obtain ⟨r, hm, rfl, rfl⟩ := h
        obtain ⟨q1, q2, q3⟩ := hq
        cases hv with
        | agg g1 g2 =>
          rename_i vs
          have hle : (z.toNat + 1) * ei.sz ≤ vs.length := by rw [← g1, q3]; exact Nat.mul_le_mul_right _ (by omega)
          rw [Nat.add_mul] at hle
          refine index_run hT (i := i) hu he q1 q2 hm (us := (vs.drop (z.toNat * ei.sz)).take ei.sz) (RVs.take (RVs.drop (cs := cs) (vs := vs) ⟨g1, g2⟩ _) _) (by simp; omega) fun j v hv => by
            rw [List.getElem?_take] at hv
            split at hv
            · simpa using hv
            · cases hv
      · cases h
    · cases h
  · cases h

/-! cuts -/
def aBound : Option AV → Option (Option Int)
  | none => some none
  | some (.lit (.int _ z)) => some (some z)
  | some _ => none
/-- l ≤ h ≤ n, as the bounds say; where a third bound is given, it is the second one's. -/
def cutLo (lo : Option Int) : Nat := match lo with | none => 0 | some z => z.toNat
def cutHi (hi : Option Int) (n : Nat) : Nat := match hi with | none => n | some z => z.toNat
def cutLen (lo hi : Option Int) (n : Nat) : Nat := match lo, hi with | none, none => n | none, some h => h.toNat | some l, none => n - l.toNat | some l, some h => h.toNat - l.toNat
def cutF (lo : Option Int) (f : Nat → List AV) : Nat → List AV := match lo with | none => f | some z => fun k => f (z.toNat + k)
def cutOk (lo hi mx : Option Int) (n : Nat) : Prop := match lo, hi, mx with
  | none, none, none => True
  | none, some h, none => 0 ≤ h ∧ h ≤ n
  | some l, none, none => 0 ≤ l ∧ l ≤ n
  | some l, some h, none => 0 ≤ l ∧ l ≤ h ∧ h ≤ n
  | none, some h, some m => 0 ≤ h ∧ h ≤ n ∧ m = h
  | some l, some h, some m => 0 ≤ l ∧ l ≤ h ∧ h ≤ n ∧ m = h
  | _, none, some _ => False
theorem cutLen_eq (lo hi : Option Int) (n : Nat) : cutLen lo hi n = cutHi hi n - cutLo lo := by cases lo <;> cases hi <;> simp [cutLen, cutHi, cutLo]
theorem cutF_eq (lo : Option Int) (f : Nat → List AV) (k : Nat) : cutF lo f k = f (cutLo lo + k) := by cases lo <;> simp [cutF, cutLo]
theorem cutOk_le {lo hi mx : Option Int} {n : Nat} (h : cutOk lo hi mx n) : cutLo lo ≤ cutHi hi n ∧ cutHi hi n ≤ n := by
  cases lo <;> cases hi <;> cases mx <;> simp only [cutOk] at h <;> simp only [cutLo, cutHi] <;> first | exact h.elim | omega
/-- The new capacity's end. -/
def cutCap (hi mx : Option Int) (c : Nat) (n : Nat) : Nat := match mx with | none => c | some _ => cutHi hi n
theorem run_bounds {lo hi mx : Option AV} {l h m : Option Int} (hl : aBound lo = some l) (hh : aBound hi = some h) (hm : aBound mx = some m) {n c : Nat} (hc : n ≤ c) (ok : cutOk l h m n) {b : Bool} {lv hv mv : Option Value}
    (rl : ∀ a, lo = some a → ∃ v, lv = some v ∧ RV O w μ a v) (rln : lo = none → lv = none) (rh : ∀ a, hi = some a → ∃ v, hv = some v ∧ RV O w μ a v) (rhn : hi = none → hv = none)
    (rm : ∀ a, mx = some a → ∃ v, mv = some v ∧ RV O w μ a v) (rmn : mx = none → mv = none) :
    (Instr.sliceBounds b n c lv hv mv).run P w = .ok (cutLo l, cutHi h n, cutCap h m c n) w := by
  have get : ∀ {x : Option AV} {z : Option Int} {v : Option Value}, aBound x = some z → (∀ a, x = some a → ∃ u, v = some u ∧ RV O w μ a u) → (x = none → v = none) → (z = none ∧ v = none) ∨ ∃ k i, z = some i ∧ v = some (.int k i) := by
    intro x z v hx h1 h2
    unfold aBound at hx
    split at hx
    · injection hx with hx; exact .inl ⟨hx.symm, h2 rfl⟩
    · rename_i k i
      injection hx with hx
      obtain ⟨u, rfl, hu⟩ := h1 _ rfl
      cases hu
      exact .inr ⟨k, i, hx.symm, rfl⟩
    · cases hx
  rcases get hl rl rln with ⟨rfl, rfl⟩ | ⟨kl, il, rfl, rfl⟩ <;> rcases get hh rh rhn with ⟨rfl, rfl⟩ | ⟨kh, ih, rfl, rfl⟩ <;> rcases get hm rm rmn with ⟨rfl, rfl⟩ | ⟨km, im, rfl, rfl⟩ <;> simp only [cutOk] at ok
  · simp [Instr.sliceBounds, cutLo, cutHi, cutCap]
  · simp [Instr.sliceBounds, cutLo, cutHi, cutCap, run_sliceBound, ok, (by omega : ih ≤ (c : Int))]
  · obtain ⟨o1, o2, rfl⟩ := ok
    have e : (im.toNat : Int) = im := Int.toNat_of_nonneg o1
    simp [Instr.sliceBounds, cutLo, cutHi, cutCap, run_sliceBound, o1, e, (by omega : im ≤ (c : Int))]
  · obtain ⟨o1, o2⟩ := ok
    simp [Instr.sliceBounds, cutLo, cutHi, cutCap, run_sliceBound, o1, o2]
  · obtain ⟨o1, o2, o3⟩ := ok
    have e : (ih.toNat : Int) = ih := Int.toNat_of_nonneg (by omega)
    simp [Instr.sliceBounds, cutLo, cutHi, cutCap, run_sliceBound, o1, o2, e, (by omega : 0 ≤ ih), (by omega : ih ≤ (c : Int))]
  · obtain ⟨o1, o2, o3, rfl⟩ := ok
    have e : (im.toNat : Int) = im := Int.toNat_of_nonneg (by omega)
    simp [Instr.sliceBounds, cutLo, cutHi, cutCap, run_sliceBound, o1, o2, e, (by omega : 0 ≤ im), (by omega : im ≤ (c : Int))]
def cutOff (lo : Option Int) (off : Nat) : Nat := match lo with | none => off | some z => off + z.toNat
def cutRoom (mx : Option Int) (cap : Option Nat) (n l : Nat) : Option Nat := match mx, cap with | some _, _ => some n | none, none => none | none, some c => some (c - l)
def aSlice (tab : Tab) (H : List AObj) (t : TypeId) (x : AV) (lo hi mx : Option AV) : Ans :=
  match tab t, aBound lo, aBound hi, aBound mx with
  | some i, some l, some h, some m => match i.k, x with
    | .slice e, .sl sz n tt f => match tab e with
      | some ei => match Nat.beq ei.sz sz with
        | true => some (cutOk l h m n, .sl sz (cutLen l h n) (match m, h with | some _, _ => true | none, none => tt | none, some _ => false) (cutF l f))
        | false => none
      | none => none
    | .slice e, .lit (.slice none 0 0) => match tab e with
      | some _ => some (cutOk l h m 0, .lit (.slice none 0 0))
      | none => none
    | .slice e, .row id sz off n cap => match tab e with
      | some ei => match Nat.beq ei.sz sz with
        | true => some (cutOk l h m n, .row id sz (cutOff l off) (cutLen l h n) (cutRoom m cap (cutLen l h n) (cutLo l)))
        | false => none
      | none => none
    | .arr N e, .ptr id sz k o => match tab e, nth H id with
      | some ei, some ob => match Nat.beq ei.sz sz, Nat.beq k 0, Nat.beq o 0, Nat.beq ob.n N, ob.st, Nat.beq ob.sz sz with
        | true, true, true, true, 0, true => some (cutOk l h m N ∧ cutLo l < N, .row id sz (cutLo l) (cutLen l h N) (some (cutCap h m N N - cutLo l)))
        | _, _, _, _, _, _ => none
      | _, _ => none
    | .str, .lit (.string s) => some (cutOk l h m s.size ∧ m = none, .lit (.string (s.extract (cutLo l) (cutHi h s.size))))
    | _, _ => none
  | _, _, _, _ => none
theorem slice_sound (hT : TabOk P tab) {t : TypeId} {x r : AV} {lo hi mx : Option AV} {q : Prop} (hs : aSlice tab H t x lo hi mx = some (q, r)) (hq : q) (hH : HRel μ X H w) {v : Value} (hv0 : RV (OO X H μ) w μ x v) {lv hv mv : Option Value}
    (rl : ∀ a, lo = some a → ∃ v, lv = some v ∧ RV (OO X H μ) w μ a v) (rln : lo = none → lv = none) (rh : ∀ a, hi = some a → ∃ v, hv = some v ∧ RV (OO X H μ) w μ a v) (rhn : hi = none → hv = none)
    (rm : ∀ a, mx = some a → ∃ v, mv = some v ∧ RV (OO X H μ) w μ a v) (rmn : mx = none → mv = none) :
    ∃ u, (Instr.sliceAt t v lv hv mv).run P w = .ok u w ∧ RV (OO X H μ) w μ r u := by
  unfold aSlice at hs
  split at hs
  · rename_i i l h m hi1 hl hh hm
    have hu := (hT t i hi1).und
    split at hs
    · rename_i e sz n tt f hk
      rw [hk] at hu
      simp only [UndOk] at hu
      split at hs
      · rename_i ei he
        have hz := (hT e ei he).run_size (w := w)
        split at hs
        · rename_i hb
          obtain rfl := beq_t hb
          injection hs with hs; injection hs with h1 h2; subst h1 h2
          cases hv0 with
          | sl go g0 gm gt g1 g2 g3 gz hA =>
            rename_i A c vs
            obtain ⟨le1, le2⟩ := cutOk_le hq
            have hrun := run_bounds (P := P) (b := true) hl hh hm g0 hq rl rln rh rhn rm rmn
            have hcc : cutHi h n ≤ cutCap h m c n ∧ cutCap h m c n ≤ c := by unfold cutCap; split <;> omega
            refine ⟨.slice (if cutCap h m c n = cutLo l then A else A.map (·.add (cutLo l * ei.sz))) (cutHi h n - cutLo l) (cutCap h m c n - cutLo l), ?_, ?_⟩
            · simp [Instr.sliceAt, run_underlying hu, Instr.slice, hrun, hz]
            · rw [cutLen_eq]
              have hle : (cutLo l + (cutHi h n - cutLo l)) * ei.sz ≤ vs.length := by rw [g1]; exact Nat.mul_le_mul_right _ (by omega)
              rw [Nat.add_mul] at hle
              refine .sl (vs := (vs.drop (cutLo l * ei.sz)).take ((cutHi h n - cutLo l) * ei.sz)) (fun u hu => go u (List.mem_of_mem_drop (List.mem_of_mem_take hu))) (by omega) (by omega) ?_ (by simp; omega) (fun k hk => by rw [cutF_eq]; exact g2 _ (by omega)) (fun k j a v hk ha hv => ?_) gz fun hn => ?_
              · intro ht
                cases m with
                | some m => simp [cutCap]
                | none =>
                  cases h with
                  | none => simp at ht; simp [cutCap, cutHi, gt ht]
                  | some h => simp at ht
              · rw [cutF_eq] at ha
                rw [List.getElem?_take] at hv
                split at hv
                · exact g3 _ j a v (by omega) ha (by rw [Nat.add_mul, Nat.add_assoc]; simpa using hv)
                · cases hv
              · obtain ⟨g, o, rfl, hg, hcell⟩ := hA (by omega)
                rw [if_neg (by omega)]
                refine ⟨g, o + cutLo l * ei.sz, by simp [Addr.add_mid], hg, fun j u hu => ?_⟩
                rw [List.getElem?_take] at hu
                split at hu
                · rw [Nat.add_assoc]; exact hcell _ u (by simpa using hu)
                · cases hu
        · cases hs
      · cases hs
    · rename_i e hk
      rw [hk] at hu
      simp only [UndOk] at hu
      split at hs
      · rename_i ei he
        have hz := (hT e ei he).run_size (w := w)
        injection hs with hs; injection hs with h1 h2; subst h1 h2
        cases hv0
        obtain ⟨le1, le2⟩ := cutOk_le hq
        have hrun := run_bounds (P := P) (b := true) hl hh hm (Nat.le_refl 0) hq rl rln rh rhn rm rmn
        have hcc : cutCap h m 0 0 = 0 := by unfold cutCap; split <;> omega
        have h1 : cutLo l = 0 := by omega
        have h2 : cutHi h 0 = 0 := by omega
        refine ⟨_, ?_, .lit _⟩
        simp [Instr.sliceAt, run_underlying hu, Instr.slice, hrun, hz, hcc, h1, h2]
      · cases hs
    · rename_i e id sz off n cap hk
      rw [hk] at hu
      simp only [UndOk] at hu
      split at hs
      · rename_i ei he
        have hz := (hT e ei he).run_size (w := w)
        split at hs
        · rename_i hb
          obtain rfl := beq_t hb
          injection hs with hs; injection hs with h1 h2; subst h1 h2
          obtain ⟨le1, le2⟩ := cutOk_le hq
          rw [cutLen_eq]
          have hoff : cutOff l off = off + cutLo l := by cases l <;> rfl
          rw [hoff]
          cases hv0 with
          | rowNil g1 g2 =>
            have hrun := run_bounds (P := P) (b := true) hl hh hm (Nat.le_refl 0) hq rl rln rh rhn rm rmn
            have hcc : cutCap h m 0 0 = 0 := by unfold cutCap; split <;> omega
            have h1 : cutLo l = 0 := by omega
            have h2 : cutHi h 0 = 0 := by omega
            rw [h1, h2]
            refine ⟨.slice none 0 0, ?_, .rowNil g1 ?_⟩
            · simp [Instr.sliceAt, run_underlying hu, Instr.slice, hrun, hz, hcc, h1, h2]
            · unfold cutRoom
              split
              · exact .inr rfl
              · exact .inl rfl
              · rcases g2 with g2 | g2 <;> simp_all
          | rowE g1 g2 g3 =>
            rename_i b mm oo
            have hrun := run_bounds (P := P) (b := true) hl hh hm (Nat.le_refl 0) hq rl rln rh rhn rm rmn
            have hcc : cutCap h m 0 0 = 0 := by unfold cutCap; split <;> omega
            have h1 : cutLo l = 0 := by omega
            have h2 : cutHi h 0 = 0 := by omega
            rw [h1, h2]
            refine ⟨.slice (some ⟨b, oo, none⟩) 0 0, ?_, .rowE g1 ?_ (by omega)⟩
            · simp [Instr.sliceAt, run_underlying hu, Instr.slice, hrun, hz, hcc, h1, h2]
            · unfold cutRoom
              split
              · exact .inr rfl
              · exact .inl rfl
              · rcases g2 with g2 | g2 <;> simp_all
          | row g1 g2 g3 g4 g5 =>
            rename_i b mm c
            have hrun := run_bounds (P := P) (b := true) hl hh hm g2 hq rl rln rh rhn rm rmn
            have hcc : cutHi h n ≤ cutCap h m c n ∧ cutCap h m c n ≤ c := by unfold cutCap; split <;> omega
            have hcap : ∀ q, cutRoom m cap (cutHi h n - cutLo l) (cutLo l) = some q → cutCap h m c n - cutLo l = q := by
              intro q hq'
              unfold cutRoom at hq'
              cases m with
              | some m => simp at hq'; simp [cutCap, hq']
              | none =>
                cases cap with
                | none => cases hq'
                | some cc => simp at hq'; simp [cutCap, g4 cc rfl, hq']
            have hcend : cutRoom m cap (cutHi h n - cutLo l) (cutLo l) = none → off + cutLo l + (cutCap h m c n - cutLo l) = mm := by
              intro hq'
              unfold cutRoom at hq'
              cases m with
              | some m => simp at hq'
              | none =>
                cases cap with
                | none => have := g5 rfl; simp only [cutCap] at hcc ⊢; omega
                | some cc => simp at hq'
            by_cases hend : cutCap h m c n = cutLo l
            · have h0 : cutHi h n - cutLo l = 0 := by omega
              refine ⟨.slice (some ⟨b, off * ei.sz, none⟩) (cutHi h n - cutLo l) (cutCap h m c n - cutLo l), ?_, ?_⟩
              · simp [Instr.sliceAt, run_underlying hu, Instr.slice, hrun, hz, hend]
              · by_cases hl0 : cutLo l = 0
                · rw [hl0] at hcap hcend ⊢
                  rw [hl0] at h0
                  exact .row (off := off + 0) g1 (by omega) (by omega) (by simpa using hcap) (by simpa using hcend)
                · rw [h0, show cutCap h m c n - cutLo l = 0 by omega]
                  rw [h0, show cutCap h m c n - cutLo l = 0 by omega] at hcap
                  refine .rowE g1 ?_ (by omega)
                  unfold cutRoom at hcap ⊢
                  split
                  · exact .inr rfl
                  · exact .inl rfl
                  · have := hcap _ rfl; exact .inr (by rw [← this])
            · refine ⟨.slice (some ⟨b, (off + cutLo l) * ei.sz, none⟩) (cutHi h n - cutLo l) (cutCap h m c n - cutLo l), ?_, .row g1 (by omega) (by omega) hcap hcend⟩
              simp [Instr.sliceAt, run_underlying hu, Instr.slice, hrun, hz, hend, Addr.add_mid, Nat.add_mul]
        · cases hs
      · cases hs
    · rename_i N e id sz k o hk
      rw [hk] at hu
      simp only [UndOk] at hu
      split at hs
      · rename_i ei ob he hob
        have hz := (hT e ei he).run_size (w := w)
        split at hs
        · rename_i hb1 hb2 hb3 hb4 hst hb5
          obtain rfl := beq_t hb1
          obtain rfl := beq_t hb2
          obtain rfl := beq_t hb3
          have hb4 := beq_t hb4
          have hb5 := beq_t hb5
          injection hs with hs; injection hs with h1 h2; subst h1 h2
          obtain ⟨hq, hlt⟩ := hq
          cases hv0 with
          | ptr g1 =>
            rename_i b mm
            obtain ⟨_, cur, hin⟩ := hH.at_ hob (by omega) g1
            have hnm := hin.nle
            obtain ⟨le1, le2⟩ := cutOk_le hq
            have hrun := run_bounds (P := P) (b := false) hl hh hm (Nat.le_refl N) hq rl rln rh rhn rm rmn
            have hcc : cutHi h N ≤ cutCap h m N N ∧ cutCap h m N N ≤ N := by unfold cutCap; split <;> omega
            rw [cutLen_eq]
            refine ⟨.slice (some (if cutCap h m N N = cutLo l then ⟨b, 0, none⟩ else ⟨b, cutLo l * ei.sz, none⟩)) (cutHi h N - cutLo l) (cutCap h m N N - cutLo l), ?_, ?_⟩
            · simp [Instr.sliceAt, run_underlying hu, hrun, hz, Instr.sureAddr, Addr.add_mid]
            · by_cases hend : cutCap h m N N = cutLo l
              · by_cases hl0 : cutLo l = 0
                · rw [if_pos hend, hl0]
                  have := RV.row (O := OO X H μ) (w := w) (sz := ei.sz) (off := 0) (n := cutHi h N - 0) (c := cutCap h m N N - 0) (cap := some (cutCap h m N N - 0)) g1 (by omega) (by omega) (by simp) (fun h => by cases h)
                  simpa using this
                · rw [if_pos hend, show cutHi h N - cutLo l = 0 by omega, show cutCap h m N N - cutLo l = 0 by omega]
                  exact .rowE g1 (.inr rfl) hl0
              · rw [if_neg hend]
                exact .row g1 (by omega) (by omega) (by simp) (fun h => by cases h)
        · cases hs
      · cases hs
    · rename_i s hk
      rw [hk] at hu
      simp only [UndOk] at hu
      injection hs with hs; injection hs with h1 h2; subst h1 h2
      cases hv0
      obtain ⟨hq, rfl⟩ := hq
      have hmx : mx = none := by
        cases mx with
        | none => rfl
        | some a => unfold aBound at hm; split at hm <;> simp_all
      subst hmx
      have hrun := run_bounds (P := P) (b := false) hl hh hm (Nat.le_refl s.size) hq rl rln rh rhn rm rmn
      have := rmn rfl
      subst this
      refine ⟨_, ?_, .lit _⟩
      simp [Instr.sliceAt, run_underlying hu, Instr.slice, hrun]
    · cases hs
  · cases hs
end Go.Proofs.YthcoccoanpmhgaaDoor
