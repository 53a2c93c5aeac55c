/- append onto a slice that has no room: a new row; of elements, and of so many zeros. -/
import Derived.Test.YthcoccoanpmhgaaDoorAMore
import Derived.Deep.AppendSrc
import Derived.Lib.AppendZerosOnto
namespace Go.Proofs.YthcoccoanpmhgaaDoor
open Go.RowKit
set_option linter.unusedVariables false
set_option linter.unusedSimpArgs false
set_option linter.unusedSectionVars false
variable {P : Program} {tab : Tab} {X : Nat → Prop} {H H' : List AObj} {μ μ' : Mu} {w w' : World} {r : Option Nat} {l R : List Oper} {Q : Exit → St → Prop} {σ : St} {o : Oper}
theorem HRel.drew (h : HRel μ X H w) : HRel μ X H w.drew :=
  ⟨h.dom, h.inj, h.lt, fun i o hi hs => ObjAt.mono (w := w) (w' := w.drew) (fun _ _ h => h) (fun _ _ _ => rfl) (fun _ _ h => h) (fun _ _ _ => rfl) (h.obj i o hi hs), h.xlt, h.gl.step (w' := w.drew) (Nat.le_refl _) (fun _ _ _ _ => rfl) (fun _ h => .inl h) fun i b m h => .inl ⟨i, m, h⟩⟩
theorem RV.drew {O : Nat → Prop} {a : AV} {v : Value} (h : RV O w μ a v) : RV O w.drew μ a v := RV.mono (w := w) (w' := w.drew) (fun _ _ h => h) (fun _ _ _ => rfl) h _ fun _ _ h => h
theorem mut_fresh (hH : HRel μ X H w) {S : Sem Next} {T sz n cap : Nat} {f : Nat → List AV} {cur : Array Value} (hz : 0 < sz) (hrun : S.run P w = .ok (.value (.slice (some ⟨w.heap.size, 0, none⟩) n cap)) (w.drew.alloc (.cells cur T))) (hn : n ≤ cap) (hm : cap ≤ maxLen) (hsz : cur.size = cap * sz)
    (h1 : ∀ (k j : Nat) v, k < n → j < sz → cur[k * sz + j]? = some v → v.oneCell' = true) (hf : ∀ k, k < n → (f k).length = sz) (hc : ∀ (k j : Nat) a v, k < n → (f k)[j]? = some a → cur[k * sz + j]? = some v → RV (OO X H μ) w noMu a v) :
    MutOk P S X μ H w (.row H.length sz 0 n none) (H ++ [{ T := T, sz := sz, n := n, f := f }]) none := by
  have hH' := hH.drew
  obtain ⟨g1, g2, g3, g4, g5⟩ := hH'.new (o := { T := T, sz := sz, n := n, f := f }) (m := cap) (cur := cur) hz hsz hm hn h1 hf fun k j a v hk ha hv => (hc k j a v hk ha hv).drew
  refine ⟨_, _, _, _, hrun, .inl rfl, g1, fun i b m hi => (g3 i b m hi), (Chg.drew μ w).trans (Ext.refl _ _) g4, ?_, fun k a v h => ⟨g5 k h.drew, fun _ => g5 k h.drew⟩⟩
  have := RV.row (O := OO X (H ++ [{ T := T, sz := sz, n := n, f := f }]) (fun i => if i = H.length then some (some (w.drew.heap.size, cap)) else μ i)) (w := w.drew.alloc (.cells cur T)) (μ := fun i => if i = H.length then some (some (w.drew.heap.size, cap)) else μ i) (i := H.length) (sz := sz) (off := 0) (n := n) (b := w.heap.size) (m := cap) (c := cap) (cap := none) (by simp) hn (by omega) (fun q hq => by cases hq) (fun _ => by omega)
  simpa using this
/-- What stands ahead: a slice without room. -/
def tightOf (sz : Nat) : AV → Option (Nat × (Nat → List AV))
  | .sl sz' n true f => match Nat.beq sz' sz with | true => some (n, f) | false => none
  | .lit (.slice none 0 0) => some (0, fun _ => [])
  | _ => none
theorem tight_ok {sz n : Nat} {f : Nat → List AV} {y : AV} (hz : 0 < sz) (h : tightOf sz y = some (n, f)) {v : Value} (hv : RV (OO X H μ) w μ y v) : ∃ (A : Option Addr) (olds : List Value), v = .slice A n n ∧ n ≤ maxLen ∧ olds.length = n * sz ∧ (∀ u ∈ olds, u.oneCell' = true) ∧
    (Builtin.firstCells sz n (.slice A n n)).run P w.drew = .ok olds.toArray w.drew ∧ (∀ k, k < n → (f k).length = sz) ∧ ∀ (k j : Nat) a v, k < n → (f k)[j]? = some a → olds[k * sz + j]? = some v → RV (OO X H μ) w noMu a v := by
  unfold tightOf at h
  split at h
  · rename_i sz1 n1 f1
    split at h
    · rename_i hb
      injection h with h; injection h with e1 e2; subst e1 e2
      have hb := beq_t hb; subst hb
      cases hv with
      | sl ho hc hm ht h1 h2 h3 hz' hA =>
        rename_i A c vs
        obtain rfl := ht rfl
        refine ⟨A, vs, rfl, hm, h1, ho, ?_, h2, h3⟩
        by_cases hn : c = 0
        · subst hn
          obtain rfl : vs = [] := List.eq_nil_of_length_eq_zero (by simpa using h1)
          cases A with
          | none => exact run_firstCells_none w.drew sz1 0 0 0
          | some a => exact run_firstCells_some w.drew sz1 0 a 0 0 [] (by simp) (by simp)
        · obtain ⟨g, q, rfl, _, hcell⟩ := hA hn
          refine run_firstCells_some w.drew sz1 c ⟨g, q, none⟩ c c vs h1 fun j u hu => ?_
          have hadd : (⟨g, q, none⟩ : Addr).add j = ⟨g, q + j, none⟩ := by simp [Addr.add_lit]
          rw [hadd]
          simpa using hcell j u hu
    · cases h
  · injection h with h; injection h with e1 e2; subst e1 e2
    cases hv
    exact ⟨none, [], rfl, Nat.zero_le _, by simp, fun u hu => by simp at hu, run_firstCells_none w.drew sz 0 0 0, fun k hk => by omega, fun k j a v hk => by omega⟩
  · cases h
def aAppNew (tab : Tab) (H : List AObj) (t : TypeId) (s x : AV) : Option (Prop × AV × AObj) :=
  match tab t with
  | some i => match i.k with
    | .slice e => match tab e with
      | some ei => match srcOf H ei.sz x, tightOf ei.sz s, Nat.blt 0 ei.sz with
        | some (q, m, g), some (n, f), true => some (q ∧ 0 < m ∧ (n + m) * ei.by_ ≤ 140737488355328 ∧ n + m ≤ 140737488355328, .row H.length ei.sz 0 (n + m) none, { T := e, sz := ei.sz, n := n + m, f := appF n f g })
        | _, _, _ => none
      | none => none
    | _ => none
  | none => none
def aAppZero (tab : Tab) (H : List AObj) (t ti : TypeId) (s x : AV) : Option (Prop × AV × AObj) :=
  match tab t, tab ti, x with
  | some i, some ii, .lit (.int _ z) => match i.k, ii.k with
    | .slice e, .int _ => match tab e with
      | some ei => match tightOf ei.sz s, Nat.blt 0 ei.sz with
        | some (n, f), true => some (0 < z ∧ (n + z.toNat) * ei.by_ ≤ 140737488355328 ∧ n + z.toNat ≤ 140737488355328, .row H.length ei.sz 0 (n + z.toNat) none, { T := e, sz := ei.sz, n := n + z.toNat, f := appF n f fun _ => lits ei.zeroCells })
        | _, _ => none
      | none => none
    | _, _ => none
  | _, _, _ => none
theorem appCells {sz n m : Nat} {f g : Nat → List AV} {olds news : List Value} {cur : Array Value} {rest : List Value} (hcur : cur.toList = olds ++ news ++ rest) (h1 : olds.length = n * sz) (h2 : ∀ u ∈ olds, u.oneCell' = true) (h3 : ∀ k, k < n → (f k).length = sz) (h4 : ∀ (k j : Nat) a v, k < n → (f k)[j]? = some a → olds[k * sz + j]? = some v → RV (OO X H μ) w noMu a v)
    (g1 : news.length = m * sz) (g2 : ∀ u ∈ news, u.oneCell' = true) (g3 : ∀ k, k < m → (g k).length = sz) (g4 : ∀ (k j : Nat) a v, k < m → (g k)[j]? = some a → news[k * sz + j]? = some v → RV (OO X H μ) w noMu a v) :
    (∀ (k j : Nat) v, k < n + m → j < sz → cur[k * sz + j]? = some v → v.oneCell' = true) ∧ (∀ k, k < n + m → (appF n f g k).length = sz) ∧ ∀ (k j : Nat) a v, k < n + m → (appF n f g k)[j]? = some a → cur[k * sz + j]? = some v → RV (OO X H μ) w noMu a v := by
  have hlen : ∀ k, k < n + m → (appF n f g k).length = sz := fun k hk => by
    by_cases hkn : k < n
    · rw [appF_lt hkn]; exact h3 k hkn
    · rw [appF_ge (by omega)]; exact g3 _ (by omega)
  have hat : ∀ (k j : Nat) v, k < n + m → j < sz → cur[k * sz + j]? = some v → (k < n ∧ olds[k * sz + j]? = some v) ∨ (n ≤ k ∧ news[(k - n) * sz + j]? = some v) := fun k j v hk hj hv => by
    rw [← Array.getElem?_toList, hcur, List.append_assoc] at hv
    by_cases hkn : k < n
    · have : (k + 1) * sz ≤ n * sz := Nat.mul_le_mul_right _ hkn
      rw [Nat.add_mul] at this
      rw [List.getElem?_append_left (by omega)] at hv
      exact .inl ⟨hkn, hv⟩
    · have h5 : n * sz ≤ k * sz := Nat.mul_le_mul_right _ (by omega)
      rw [List.getElem?_append_right (by omega)] at hv
      have h6 : k * sz + j - olds.length = (k - n) * sz + j := by rw [h1, Nat.sub_mul]; omega
      rw [h6] at hv
      have h7 : (k - n + 1) * sz ≤ m * sz := Nat.mul_le_mul_right _ (by omega)
      rw [Nat.add_mul] at h7
      rw [List.getElem?_append_left (by omega)] at hv
      exact .inr ⟨by omega, hv⟩
  refine ⟨fun k j v hk hj hv => ?_, hlen, fun k j a v hk ha hv => ?_⟩
  · rcases hat k j v hk hj hv with ⟨_, h⟩ | ⟨_, h⟩
    · exact h2 v (List.mem_of_getElem? h)
    · exact g2 v (List.mem_of_getElem? h)
  · have hj : j < sz := by rw [← hlen k hk]; exact (List.getElem?_eq_some_iff.1 ha).1
    rcases hat k j v hk hj hv with ⟨hkn, h⟩ | ⟨hkn, h⟩
    · rw [appF_lt hkn] at ha; exact h4 k j a v hkn ha h
    · rw [appF_ge hkn] at ha; exact g4 _ j a v (by omega) ha h
theorem al_appnew (hT : TabOk P tab) (hw : wantA l σ o = some true) {t : TypeId} {sx xx : Operand} (ho : o.op = .call { callee := .builtin .append, args := #[sx, xx], argTypes := #[t, t] }) {q : Prop} {y : AV} {ob : AObj}
    (h : aAppNew tab σ.H t (σ.ev sx) (σ.ev xx) = some (q, y, ob)) (hq : q) (next : AL P r l Q R (St.put ⟨σ.s, σ.H ++ [ob], σ.fg, σ.nb⟩ o.dst y)) : AL P r l Q (o :: R) σ := by
  refine al_mut (H' := σ.H ++ [ob]) (fg := none) hw (fun c hc => by rw [ho] at hc; cases hc) (fun B μ a w hr => ⟨?_, by simp⟩) next
  have hex : execOp a.eval o = (do pure (.value (← Builtin.append_ #[t, t] o.type #[a.eval sx, a.eval xx])) : Sem Next) := by
    unfold execOp
    rw [ho]
    simp [resolve, invoke, builtin]
  rw [hex]
  have hs := hr.ev sx
  have hx := hr.ev xx
  unfold aAppNew at h
  split at h
  · rename_i i hi
    split at h
    · rename_i e hk
      split at h
      · rename_i ei he
        split at h
        · rename_i q' m g n f hsrc hti hz
          injection h with h; injection h with e0 h; injection h with e1 e2
          subst e0 e1 e2
          obtain ⟨q1, q2, q3, q4⟩ := hq
          rw [Nat.blt_eq] at hz
          obtain ⟨A, c, news, g1, g2, g3, g4, g5, g6⟩ := src_ok hr.H hsrc q1 hx
          obtain ⟨A', olds, k1, k2, k3, k4, k5, k6, k7⟩ := tight_ok (P := P) hz hti hs
          obtain ⟨a', rfl, gc⟩ := g4 (by omega)
          have hu := (hT t i hi).und
          rw [hk] at hu; simp only [UndOk] at hu
          obtain ⟨fi, hf, hfs, hfb, zv, hzv, hzc⟩ := (hT e ei he).info
          have hzs : zv.cells.size = ei.sz := by rw [← Array.length_toList, hzc, (hT e ei he).zlen]
          have hsrc' : Src P fi.size t (.slice (some a') m c) m news w := Src.ofSlice w hu a' m c news (by rw [hfs]; exact g2) gc g3
          have hrun := run_append_grow_src (P := P) w t t o.type e fi zv hu hf hzv A' n n olds (by rw [hfs]; exact k5) _ m news hsrc' (by omega) (by omega) (by rw [hfb]; exact growslice_fits (by omega) q3)
          rw [k1, g1]
          have hge := grownCap_ge w (n + m) n e
          obtain ⟨c1, c2, c3⟩ := appCells (cur := (olds ++ news).toArray ++ Builtin.zeroCells zv.cells (grownCap w (n + m) n e - (n + m))) (rest := (Builtin.zeroCells zv.cells (grownCap w (n + m) n e - (n + m))).toList) (by simp) k3 k4 k6 k7 g2 g3 g5 g6
          refine mut_fresh hr.H hz (cap := grownCap w (n + m) n e) (by rw [Sem.run_bind, hrun]; rfl) hge (grownCap_le_maxLen w _ _ _ (by unfold maxLen; omega)) ?_ c1 c2 c3
          simp only [Array.size_append, List.size_toArray, List.length_append, size_zeroCells, hzs, k3, g2, ← Nat.add_mul]
          congr 1; omega
        · cases h
      · cases h
    · cases h
  · cases h
theorem al_appzero (hT : TabOk P tab) (hw : wantA l σ o = some true) {t ti : TypeId} {sx xx : Operand} (ho : o.op = .call { callee := .builtin .append, args := #[sx, xx], argTypes := #[t, ti] }) {q : Prop} {y : AV} {ob : AObj}
    (h : aAppZero tab σ.H t ti (σ.ev sx) (σ.ev xx) = some (q, y, ob)) (hq : q) (next : AL P r l Q R (St.put ⟨σ.s, σ.H ++ [ob], σ.fg, σ.nb⟩ o.dst y)) : AL P r l Q (o :: R) σ := by
  refine al_mut (H' := σ.H ++ [ob]) (fg := none) hw (fun c hc => by rw [ho] at hc; cases hc) (fun B μ a w hr => ⟨?_, by simp⟩) next
  have hex : execOp a.eval o = (do pure (.value (← Builtin.append_ #[t, ti] o.type #[a.eval sx, a.eval xx])) : Sem Next) := by
    unfold execOp
    rw [ho]
    simp [resolve, invoke, builtin]
  rw [hex]
  have hs := hr.ev sx
  have hx := hr.ev xx
  unfold aAppZero at h
  split at h
  · rename_i i ii kz z hi hii hxe
    split at h
    · rename_i e kn hk hkn
      split at h
      · rename_i ei he
        split at h
        · rename_i n f hti hz
          injection h with h; injection h with e0 h; injection h with e1 e2
          subst e0 e1 e2
          obtain ⟨q1, q2, q3⟩ := hq
          rw [Nat.blt_eq] at hz
          rw [hxe] at hx
          obtain ⟨A', olds, k1, k2, k3, k4, k5, k6, k7⟩ := tight_ok (P := P) hz hti hs
          have hu := (hT t i hi).und
          rw [hk] at hu; simp only [UndOk] at hu
          have hui := (hT ti ii hii).und
          rw [hkn] at hui; simp only [UndOk] at hui
          obtain ⟨fi, hf, hfs, hfb, zv, hzv, hzc⟩ := (hT e ei he).info
          have hzs : zv.cells.size = ei.sz := by rw [← Array.length_toList, hzc, (hT e ei he).zlen]
          have hzz : ((z.toNat : Nat) : Int) = z := by omega
          have hrun := Lib.run_append_grow_zeros (P := P) w t ti o.type e fi zv kz kn hu hui hf hzv A' n n olds (by rw [hfs]; exact k5) z.toNat (by omega) (by rw [hfs]; exact hz) (by omega) (by omega) (by
            rw [hfb]
            have : z.toNat * ei.by_ ≤ (n + z.toNat) * ei.by_ := Nat.mul_le_mul_right _ (by omega)
            omega) (by rw [hfb]; exact growslice_fits (by omega) q2)
          rw [hzz] at hrun
          rw [k1, hx.lit_eq]
          have hge := grownCap_ge w (n + z.toNat) n e
          have hzcell : ∀ (m k j : Nat), k < m → j < ei.sz → (Builtin.zeroCells zv.cells m)[k * ei.sz + j]? = ei.zeroCells[j]? := fun m k j hk hj => by
            have h1 : k * ei.sz + j < m * ei.sz := by
              have : (k + 1) * ei.sz ≤ m * ei.sz := Nat.mul_le_mul_right _ hk
              rw [Nat.add_mul] at this; omega
            simp only [Builtin.zeroCells, hzs]
            rw [Array.getElem?_map, Array.getElem?_range]
            simp only [h1, if_true, Option.map_some]
            have h2 : (k * ei.sz + j) % ei.sz = j := by rw [Nat.mul_comm, Nat.mul_add_mod]; exact Nat.mod_eq_of_lt hj
            rw [h2, ← hzc]
            have h3 : j < zv.cells.size := by omega
            simp [h3]
          have hg4 : ∀ (k j : Nat) a v, k < z.toNat → (lits ei.zeroCells)[j]? = some a → (Builtin.zeroCells zv.cells z.toNat).toList[k * ei.sz + j]? = some v → RV (OO B.X σ.H μ) w noMu a v := fun k j a v hk ha hv => by
            simp only [lits, List.getElem?_map, Option.map_eq_some_iff] at ha
            obtain ⟨u, hu, rfl⟩ := ha
            have hj : j < ei.sz := by rw [← (hT e ei he).zlen]; exact (List.getElem?_eq_some_iff.1 hu).1
            rw [Array.getElem?_toList, hzcell _ _ _ hk hj, hu] at hv
            injection hv with hv; subst hv
            exact .lit _
          have hone : ∀ u ∈ (Builtin.zeroCells zv.cells z.toNat).toList, u.oneCell' = true := fun u hu => by
            obtain ⟨k, hk⟩ := List.getElem?_of_mem hu
            have hlt : k < z.toNat * ei.sz := by have := (List.getElem?_eq_some_iff.1 hk).1; simpa [size_zeroCells, hzs] using this
            have hjm : k % ei.sz < ei.sz := Nat.mod_lt _ hz
            rw [← Nat.div_add_mod' k ei.sz, Array.getElem?_toList, hzcell _ _ _ ((Nat.div_lt_iff_lt_mul hz).2 hlt) hjm] at hk
            exact (hT e ei he).zone u (List.mem_of_getElem? hk)
          obtain ⟨c1, c2, c3⟩ := appCells (g := fun _ => lits ei.zeroCells) (news := (Builtin.zeroCells zv.cells z.toNat).toList) (m := z.toNat) (cur := olds.toArray ++ Builtin.zeroCells zv.cells z.toNat ++ Builtin.zeroCells zv.cells (grownCap w (n + z.toNat) n e - (n + z.toNat))) (rest := (Builtin.zeroCells zv.cells (grownCap w (n + z.toNat) n e - (n + z.toNat))).toList) (by simp) k3 k4 k6 k7 (by simp [size_zeroCells, hzs]) hone (fun k _ => by simp [lits, (hT e ei he).zlen]) hg4
          refine mut_fresh hr.H hz (cap := grownCap w (n + z.toNat) n e) (by rw [Sem.run_bind, hrun]; rfl) hge (grownCap_le_maxLen w _ _ _ (by unfold maxLen; omega)) ?_ c1 c2 c3
          simp only [Array.size_append, List.size_toArray, size_zeroCells, hzs, k3, ← Nat.add_mul]
          congr 1; omega
        · cases h
      · cases h
    · cases h
  · cases h
theorem leArr {n : Nat} {f g : Nat → List AV} (h : ∀ k, k < n → g k = f k) : AV.Le (.arr 1 n f) (.arr 1 n g) := fun O w μ v hv => by
  cases hv with
  | arr h0 h1 h2 h3 => exact .arr h0 h1 (fun k hk => by rw [h k hk]; exact h2 k hk) fun k j a v hk ha hv => h3 k j a v hk (by rw [← h k hk]; exact ha) hv
theorem les1 {a b : AV} (h : AV.Le a b) : LeS [a] [b] := .cons h .nil
theorem les2 {a b c d : AV} (h : AV.Le a b) (h' : AV.Le c d) : LeS [a, c] [b, d] := .cons h (les1 h')
theorem les3 {a b c d e f : AV} (h : AV.Le a b) (h' : AV.Le c d) (h'' : AV.Le e f) : LeS [a, c, e] [b, d, f] := .cons h (les2 h' h'')
/-- An operation whose answer is known in some other way. -/
theorem al_val (hw : wantA l σ o = some true) (hd : ∀ c, o.op ≠ .defer c) {x : AV} (h : ∀ (B : Base P) (μ : Mu) (a : Act) (w : World), SRel B μ σ a w → ∃ u, (execOp a.eval o).run P w = .ok (.value u) w ∧ RV (OO B.X σ.H μ) w μ x u) (next : AL P r l Q R (σ.put o.dst x)) : AL P r l Q (o :: R) σ := by
  refine al_mut (H' := σ.H) (fg := none) hw hd (fun B μ a w hr => ?_) (by simpa [St.behind] using next)
  obtain ⟨u, h1, h2⟩ := h B μ a w hr
  exact ⟨⟨_, u, w, μ, h1, .inl rfl, hr.H, Ext.refl _ _, Chg.refl _ _, h2, fun k a v h => ⟨h, fun _ => h⟩⟩, Nat.le_refl _⟩
def capA : AV → Option Nat
  | .sl _ n true _ => some n
  | .lit (.slice none 0 0) => some 0
  | _ => none
theorem al_cap (hT : TabOk P tab) (hw : wantA l σ o = some true) {t : TypeId} {x : Operand} (ho : o.op = .call { callee := .builtin .cap, args := #[x], argTypes := #[t] }) (ht : isSlice tab t = true) {n : Nat} (hx : capA (σ.ev x) = some n)
    (next : AL P r l Q R (σ.put o.dst (.lit (.int .i64 n)))) : AL P r l Q (o :: R) σ := by
  refine al_val hw (fun c hc => by rw [ho] at hc; cases hc) (fun B μ a w hr => ?_) next
  obtain ⟨e, he⟩ := isSlice_ok hT ht
  have hv := hr.ev x
  refine ⟨.int .i64 n, ?_, .lit _⟩
  have : ∃ A m, a.eval x = .slice A m n := by
    unfold capA at hx
    split at hx
    · injection hx with hx; subst hx; rename_i hh; rw [hh] at hv
      generalize a.eval x = v at hv
      cases hv with
      | sl ho hc hm ht h1 h2 h3 hz hA => obtain rfl := ht rfl; exact ⟨_, _, rfl⟩
    · injection hx with hx; subst hx; rename_i hh; rw [hh] at hv
      exact ⟨_, _, hv.lit_eq⟩
    · cases hx
  obtain ⟨A, m, hm⟩ := this
  unfold execOp
  rw [ho]
  simp [resolve, invoke, builtin, Builtin.cap_, hm, run_underlying he, goInt]
end Go.Proofs.YthcoccoanpmhgaaDoor
