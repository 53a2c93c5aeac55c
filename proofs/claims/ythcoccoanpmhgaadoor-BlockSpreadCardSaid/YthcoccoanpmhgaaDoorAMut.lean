/- Operations that write: stores, appends. All operations but calls (aOp). -/
import Derived.Test.YthcoccoanpmhgaaDoorANew
namespace Go.Proofs.YthcoccoanpmhgaaDoor
open Go.RowKit
set_option linter.unusedVariables false
set_option linter.unusedSimpArgs false
set_option linter.unusedSectionVars false
variable {P : Program} {tab : Tab} {X : Nat → Prop} {H H' : List AObj} {μ μ' : Mu} {w w' : World} {O O' : Nat → Prop}

def fgA : Option Nat → AV → AV
  | none, a => a
  | some id, a => forget id 4 a
/-- What an operation does: its answer, the objects behind it, and what is not known any more. -/
def MutOk (P : Program) (s : Sem Next) (X : Nat → Prop) (μ : Mu) (H : List AObj) (w : World) (r : AV) (H' : List AObj) (fg : Option Nat) : Prop :=
  ∃ n u w' μ', s.run P w = .ok n w' ∧ (n = .value u ∨ (n = .skip ∧ u = undef)) ∧ HRel μ' X H' w' ∧ Ext μ w μ' ∧ Chg μ w w' ∧ RV (OO X H' μ') w' μ' r u ∧ ∀ (k : Nat) a v, RV (OO X H μ) w (upto k μ) a v → RV (OO X H' μ') w' (upto k μ') (fgA fg a) v ∧ ((∀ id, fg = some id → k ≤ id) → RV (OO X H' μ') w' (upto k μ') a v)
theorem NewOk.mut (hH : HRel μ X H w) {s : Sem Next} {r : AV} {o : AObj} (h : NewOk P s (OO X H μ) μ w H.length r o) : MutOk P s X μ H w r (H ++ [o]) none := by
  obtain ⟨u, cur, h1, h2, h3, h4, h5⟩ := h.run
  obtain ⟨g1, g2, g3, g4, g5⟩ := hH.new (o := o) (m := o.n) (cur := cur) h.sz h2 h.le (Nat.le_refl _) h3 h.flen h4
  exact ⟨_, u, _, _, h1, .inl rfl, g1, g3, g4, h5 _ _ _ (by simp), fun k a v h => ⟨g5 k h, fun _ => g5 k h⟩⟩
theorem splice_get {α : Type} {l cs : List α} {off : Nat} (h : off + cs.length ≤ l.length) (i : Nat) : (splice l off cs)[i]? = if i < off then l[i]? else if i < off + cs.length then cs[i - off]? else l[i]? := by
  unfold splice
  have e1 : (l.take off).length = off := by simp; omega
  by_cases h1 : i < off
  · rw [if_pos h1, List.append_assoc, List.getElem?_append_left (by omega), List.getElem?_take, if_pos h1]
  · rw [if_neg h1, List.append_assoc, List.getElem?_append_right (by omega), e1]
    by_cases h2 : i < off + cs.length
    · rw [if_pos h2, List.getElem?_append_left (by omega)]
    · rw [if_neg h2, List.getElem?_append_right (by omega), List.getElem?_drop]
      congr 1; omega
def upd (f : Nat → List AV) (k : Nat) (c : List AV) : Nat → List AV := fun q => match Nat.beq q k with | true => c | false => f q
def storeObj (i : TyI) (ob : AObj) (k o : Nat) (x : AV) : Option (Prop × AObj) :=
  match i.k, x with
  | .arr n _, .arr sz m f => match ob.box, Nat.beq m n, Nat.beq sz ob.sz, Nat.beq i.sz (n * sz), Nat.beq o 0 with
    | false, true, true, true, true => some (k = 0 ∧ ob.n = n, { ob with f := f })
    | _, _, _, _, _ => none
  | _, _ => match boxCells x i.sz, Nat.ble (o + i.sz) ob.sz with
    | some cs, true => some (k < ob.n, { ob with f := match ob.box with | true => fun _ => splice (ob.f 0) o cs | false => upd ob.f k (splice (ob.f k) o cs), pure := ob.pure && cs.all (idfree 4) })
    | _, _ => none
def aStore (tab : Tab) (H : List AObj) (t : TypeId) (p x : AV) : Option (Prop × List AObj) :=
  match tab t, p with
  | some i, .ptr id sz k o => match nth H id with
    | some ob => match ob.st, Nat.beq ob.sz sz with
      | 0, true => match storeObj i ob k o x with
        | some (q, ob') => some (q ∧ (ob.box = true → ob.n = 1), setn H id ob')
        | none => none
      | _, _ => none
    | none => none
  | _, _ => none
/-- The cells vs are stored in object id, from cell k * sz + o on. -/
theorem store_put (hH : HRel μ X H w) {id b m off : Nat} {ob ob' : AObj} {cur : Array Value} (hid : H[id]? = some ob) (hs : ob.st = 0) (hm : μ id = some (some (b, m))) (hin : ObjIn (OO X H μ) w μ b m ob cur) (hz : 0 < ob.sz)
    {t : TypeId} {i : TyI} (hty : TyOk P t i) {v : Value} (hl : v.cells.toList.length = i.sz) (hb : off + i.sz ≤ cur.size) (h1 : ∀ u ∈ v.cells.toList, u.oneCell' = true)
    (e1 : ob'.T = ob.T) (e2 : ob'.sz = ob.sz) (e3 : ob'.n = ob.n) (e4 : ob'.st = ob.st)
    (hone : ∀ (k j : Nat) v', k < ob.n → j < ob.sz → (splice cur.toList off v.cells.toList)[k * ob.sz + j]? = some v' → v'.oneCell' = true)
    (hf : ∀ k, k < ob.n → (ob'.f k).length = ob.sz)
    (hc : ∀ (k j : Nat) a v', k < ob.n → (ob'.f k)[j]? = some a → (splice cur.toList off v.cells.toList)[k * ob.sz + j]? = some v' → RV (OO X H μ) w (if ob'.pure then noMu else μ) a v') :
    MutOk P (do Instr.storeAt t (.pointer (some ⟨b, off, none⟩)) v; pure .skip) X μ H w (.lit undef) (H.set id ob') none := by
  have hidlt : id < H.length := (List.getElem?_eq_some_iff.1 hid).1
  have hrun := run_storeCells_at P b off ob.T v.cells.toList 0 cur w hin.blk (by omega) h1
  simp only [Nat.add_zero] at hrun
  let cur' : Array Value := (splice cur.toList off v.cells.toList).toArray
  have hst : (do Instr.storeAt t (.pointer (some ⟨b, off, none⟩)) v; pure .skip : Sem Next).run P w = .ok .skip (w.setRow b cur') := by
    have hsz : v.cells.size = i.sz := by simpa using hl
    simp only [Instr.storeAt, Instr.sureAddr, storeVar, Sem.run_bind, Sem.run_pure, Result.andThen_ok, hty.run_size, hsz, ne_eq, not_true_eq_false, if_false, hrun]
    rfl
  have hpu : Puts μ μ X H (H.set id ob') w (w.setRow b cur') id :=
    ⟨⟨ob, hid, hs⟩, by simp, fun i o' hi ho => by rw [List.getElem?_set_ne (Ne.symm hi)] at ho; exact ⟨o', ho, rfl⟩, fun _ _ => rfl, fun l hl' b' m' he => by
      subst he
      rw [hm] at hl'; injection hl' with hl'; injection hl' with hl'; injection hl' with g1 g2; subst g1
      exact ⟨by simp; exact (Array.getElem?_eq_some_iff.1 hin.blk).1, .inl ⟨_, hm⟩⟩, by simp, rfl, rfl, rfl, fun b' hb' hn => setRow_other w b b' cur' fun he => hn m (by rw [he]; exact hm)⟩
  refine ⟨.skip, undef, w.setRow b cur', μ, hst, .inr ⟨rfl, rfl⟩, hpu.rel hH (hpu.others hH fun i hi => List.getElem?_set_ne (Ne.symm hi)) fun o' ho' _ => ?_, hpu.ext, hpu.chg, .lit _, fun k a v' h => ⟨h.mono hpu.oo hpu.moved.blk _ fun _ _ h => h, fun _ => h.mono hpu.oo hpu.moved.blk _ fun _ _ h => h⟩⟩
  rw [List.getElem?_set_self hidlt] at ho'
  injection ho' with ho'; subst ho'
  refine ⟨by rw [e2]; exact hz, .inr ⟨b, m, cur', hm, by rw [e1]; exact setRow_heap w b cur cur' ob.T (0, 0) hin.blk, ?_, hin.le, by rw [e3]; exact hin.nle, ?_, ?_, ?_⟩⟩
  · rw [e2]
    simp only [cur', List.size_toArray]
    rw [splice_length _ _ _ (by simp at hl ⊢; omega)]
    simpa using hin.size
  · rw [e2, e3]; intro k j v' hk hj hv; exact hone k j v' hk hj (by simpa [cur'] using hv)
  · rw [e2, e3]; exact hf
  · rw [e2, e3]; intro k j a v' hk ha hv; exact (hc k j a v' hk ha (by simpa [cur'] using hv)).mono hpu.oo hpu.moved.blk _ fun _ _ h => h
theorem cell_out {k k' sz o n j : Nat} (hne : k' ≠ k) (hj : j < sz) (ho : o + n ≤ sz) : k' * sz + j < k * sz + o ∨ k * sz + o + n ≤ k' * sz + j := by
  rcases Nat.lt_or_gt_of_ne hne with h | h
  · left
    have : (k' + 1) * sz ≤ k * sz := Nat.mul_le_mul_right _ h
    rw [Nat.add_mul] at this; omega
  · right
    have : (k + 1) * sz ≤ k' * sz := Nat.mul_le_mul_right _ h
    rw [Nat.add_mul] at this; omega
theorem store_sound (hT : TabOk P tab) (hH : HRel μ X H w) {t : TypeId} {p x : AV} {q : Prop} {H' : List AObj} (h : aStore tab H t p x = some (q, H')) (hq : q) {pv v : Value} (hp : RV (OO X H μ) w μ p pv) (hv : RV (OO X H μ) w μ x v) :
    MutOk P (do Instr.storeAt t pv v; pure .skip) X μ H w (.lit undef) H' none := by
  unfold aStore at h
  split at h
  · rename_i i id sz k o hi
    have hty := hT t i hi
    split at h
    · rename_i ob hob
      split at h
      · rename_i hst hsz
        have hsz := beq_t hsz
        subst hsz
        split at h
        · rename_i q' ob' hso
          injection h with h; injection h with e1 e2; subst e1 e2
          obtain ⟨hq, hbox⟩ := hq
          cases hp with
          | ptr hm =>
            rename_i b m
            obtain ⟨hz, cur, hin⟩ := hH.at_ hob (by omega) hm
            rw [setn_eq]
            rw [nth_eq] at hob
            unfold storeObj at hso
            split at hso
            · rename_i n e sz2 m2 f hk
              split at hso
              · rename_i hb1 hb2 hb3 hb4 hb5
                obtain rfl := beq_t hb2
                have hb3 := beq_t hb3
                have hb4 := beq_t hb4
                obtain rfl := beq_t hb5
                injection hso with hso; injection hso with e1 e2; subst e1 e2
                obtain ⟨rfl, hn⟩ := hq
                subst hb3
                cases hv with
                | arr g0 g1 g2 g3 =>
                  rename_i vs
                  have hvl : (Value.agg vs.toArray).cells.toList.length = i.sz := by simp [Value.cells, g1, hb4]
                  have hcs : m2 * ob.sz ≤ cur.size := by rw [hin.size]; exact Nat.mul_le_mul_right _ (by have := hin.nle; omega)
                  have hget : ∀ (k j : Nat) v', k < ob.n → j < ob.sz → (splice cur.toList (0 * ob.sz + 0) (Value.agg vs.toArray).cells.toList)[k * ob.sz + j]? = some v' → vs[k * ob.sz + j]? = some v' := by
                    intro k j v' hk hj hv'
                    have hlt : k * ob.sz + j < m2 * ob.sz := by
                      have : (k + 1) * ob.sz ≤ m2 * ob.sz := Nat.mul_le_mul_right _ (by omega)
                      rw [Nat.add_mul] at this; omega
                    rw [splice_get (by simp [Value.cells, g1]; omega)] at hv'
                    simp only [Value.cells, Nat.zero_mul, Nat.zero_add, Nat.not_lt_zero, if_false, Nat.sub_zero, g1, hlt, if_true] at hv'
                    exact hv'
                  exact store_put hH hob hst hm hin hz hty hvl (by rw [hb4]; omega) (by simpa [Value.cells] using g0) rfl rfl rfl rfl (fun k j v' hk hj hv' => g0 v' (List.mem_of_getElem? (hget k j v' hk hj hv')))
                    (fun k hk => g2 k (by omega)) fun k j a v' hk ha hv' => by
                      have hj : j < ob.sz := by rw [← g2 k (by omega)]; exact (List.getElem?_eq_some_iff.1 ha).1
                      have := g3 k j a v' (by omega) ha (hget k j v' hk hj hv')
                      simp only
                      split
                      · exact this
                      · exact this.up
              · cases hso
            · split at hso
              · rename_i cs hcs hle
                have hle := Nat.ble_eq.mp hle
                injection hso with hso; injection hso with e1 e2; subst e1 e2
                obtain ⟨c1, c2, c3⟩ := boxCells_ok hcs hv
                have hvl : v.cells.toList.length = i.sz := by rw [← c2.1, c1]
                have hkb : k * ob.sz + ob.sz ≤ cur.size := by
                  have : (k + 1) * ob.sz ≤ m * ob.sz := Nat.mul_le_mul_right _ (by have := hin.nle; omega)
                  rw [hin.size]; rw [Nat.add_mul] at this; omega
                have hoff : k * ob.sz + o + i.sz ≤ cur.size := by omega
                obtain ⟨us, u1, u2, u3, _⟩ := elem_cells hz hin hq
                have hsl : (k * ob.sz + o) + v.cells.toList.length ≤ cur.toList.length := by rw [hvl]; simp; omega
                -- element k itself
                have hk_get : ∀ (j : Nat) v', j < ob.sz → (splice cur.toList (k * ob.sz + o) v.cells.toList)[k * ob.sz + j]? = some v' → (splice us o v.cells.toList)[j]? = some v' := by
                  intro j v' hj hv'
                  rw [splice_get hsl] at hv'
                  rw [splice_get (by rw [hvl, u2]; omega)]
                  by_cases h1 : j < o
                  · rw [if_pos h1]; rw [if_pos (by omega)] at hv'
                    have hju : j < us.length := by omega
                    have := u3 j _ (List.getElem?_eq_getElem hju)
                    rw [Array.getElem?_toList, this] at hv'
                    rw [← hv']; exact List.getElem?_eq_getElem hju
                  · rw [if_neg h1]; rw [if_neg (by omega)] at hv'
                    by_cases h2 : j < o + v.cells.toList.length
                    · rw [if_pos h2]; rw [if_pos (by omega)] at hv'
                      rw [← hv']; congr 1; omega
                    · rw [if_neg h2]; rw [if_neg (by omega)] at hv'
                      have hju : j < us.length := by omega
                      have := u3 j _ (List.getElem?_eq_getElem hju)
                      rw [Array.getElem?_toList, this] at hv'
                      rw [← hv']; exact List.getElem?_eq_getElem hju
                have hne_get : ∀ (k' j : Nat) v', k' ≠ k → j < ob.sz → (splice cur.toList (k * ob.sz + o) v.cells.toList)[k' * ob.sz + j]? = some v' → cur[k' * ob.sz + j]? = some v' := by
                  intro k' j v' hne hj hv'
                  rw [splice_get hsl] at hv'
                  rcases cell_out hne hj (n := i.sz) hle with h1 | h1
                  · rw [if_pos h1] at hv'; simpa using hv'
                  · rw [if_neg (by omega), if_neg (by omega)] at hv'; simpa using hv'
                have hfk : ∀ k', k' < ob.n → (match ob.box with | true => fun _ => splice (ob.f 0) o cs | false => upd ob.f k (splice (ob.f k) o cs)) k' = if k' = k then splice (ob.f k) o cs else ob.f k' := by
                  intro k' hk'
                  cases hbx : ob.box with
                  | true =>
                    have := hbox hbx
                    rw [if_pos (by omega), show k = 0 by omega]
                  | false =>
                    simp only [upd]
                    by_cases he : k' = k
                    · rw [if_pos he, he]; simp
                    · rw [if_neg he]
                      have : Nat.beq k' k = false := by
                        cases hbb : Nat.beq k' k with
                        | false => rfl
                        | true => exact (he (beq_t hbb)).elim
                      rw [this]
                have hspl : (splice (ob.f k) o cs).length = ob.sz := by rw [splice_length _ _ _ (by rw [hin.flen k hq, c1]; omega), hin.flen k hq]
                refine store_put hH hob hst hm hin hz hty hvl (by omega) c3 rfl rfl rfl rfl (fun k' j v' hk' hj hv' => ?_) (fun k' hk' => ?_) fun k' j a v' hk' ha hv' => ?_
                · by_cases he : k' = k
                  · subst he
                    have := hk_get j v' hj hv'
                    rw [splice_get (by rw [hvl, u2]; omega)] at this
                    split at this
                    · exact hin.one k' j v' hk' hj (u3 j v' this)
                    · split at this
                      · exact c3 v' (List.mem_of_getElem? this)
                      · exact hin.one k' j v' hk' hj (u3 j v' this)
                  · exact hin.one k' j v' hk' hj (hne_get k' j v' he hj hv')
                · simp only; rw [hfk k' hk']
                  split
                  · exact hspl
                  · exact hin.flen k' hk'
                · simp only at ha ⊢
                  rw [hfk k' hk'] at ha
                  split at ha
                  · rename_i he; subst he
                    have hj : j < ob.sz := by rw [← hspl]; exact (List.getElem?_eq_some_iff.1 ha).1
                    have hg := hk_get j v' hj hv'
                    by_cases hpu : (ob.pure && cs.all (idfree 4)) = true
                    · rw [if_pos hpu]
                      rw [Bool.and_eq_true] at hpu
                      rw [hpu.1] at u1
                      have c2' : RVs (OO X H μ) w noMu cs v.cells.toList := ⟨c2.1, fun j a v ha hv => idfree_rv 4 (List.all_eq_true.1 hpu.2 _ (List.mem_of_getElem? ha)) (c2.2 j a v ha hv)⟩
                      exact ((show RVs _ _ noMu _ _ from u1).splice_ c2').2 j a v' ha hg
                    · rw [if_neg hpu]
                      exact (u1.opt.splice_ c2).2 j a v' ha hg
                  · rename_i he
                    have hj : j < ob.sz := by rw [← hin.flen k' hk']; exact (List.getElem?_eq_some_iff.1 ha).1
                    have hr := hin.cell k' j a v' hk' ha (hne_get k' j v' he hj hv')
                    by_cases hpu : (ob.pure && cs.all (idfree 4)) = true
                    · rw [if_pos hpu]
                      rw [Bool.and_eq_true] at hpu
                      rw [hpu.1] at hr; exact hr
                    · rw [if_neg hpu]
                      cases hp : ob.pure with
                      | true => rw [hp] at hr; exact RV.up hr
                      | false => rw [hp] at hr; exact hr
              · cases hso
        · cases h
      · cases h
    · cases h
  · cases h

/-! appends -/
def srcOf (H : List AObj) (sz : Nat) : AV → Option (Prop × Nat × (Nat → List AV))
  | .sl sz' m _ g => match Nat.beq sz' sz with | true => some (True, m, g) | false => none
  | .row id sz' off m _ => match nth H id with
    | some ob => match Nat.beq sz' sz, Nat.beq ob.sz sz, Nat.blt ob.st 2, ob.pure with
      | true, true, true, true => some (off + m ≤ ob.n, m, match off with | 0 => ob.f | off => fun k => ob.f (off + k))
      | _, _, _, _ => none
    | none => none
  | .lit (.slice none 0 0) => some (True, 0, fun _ => [])
  | _ => none
theorem src_ok (hH : HRel μ X H w) {sz m : Nat} {g : Nat → List AV} {q : Prop} {y : AV} (h : srcOf H sz y = some (q, m, g)) (hq : q) {v : Value} (hv : RV (OO X H μ) w μ y v) :
    ∃ (A : Option Addr) (c : Nat) (news : List Value), v = .slice A m c ∧ news.length = m * sz ∧ (∀ u ∈ news, u.oneCell' = true) ∧ (m ≠ 0 → ∃ a : Addr, A = some a ∧ ∀ j u, news[j]? = some u → w.cell? (a.add j) = some u) ∧ (∀ k, k < m → (g k).length = sz) ∧
      ∀ (k j : Nat) a v, k < m → (g k)[j]? = some a → news[k * sz + j]? = some v → RV (OO X H μ) w noMu a v := by
  unfold srcOf at h
  split at h
  · rename_i sz' m' tt g'
    split at h
    · rename_i hb
      obtain rfl := beq_t hb
      injection h with h; injection h with _ h; injection h with e1 e2; subst e1 e2
      cases hv with
      | sl h0 h1 h2 h3 h4 h5 h6 h7 h8 =>
        rename_i A c vs
        refine ⟨A, c, vs, rfl, h4, h0, fun hm => ?_, h5, h6⟩
        obtain ⟨gg, o, rfl, _, hcell⟩ := h8 hm
        exact ⟨_, rfl, fun j u hu => by rw [Addr.add_mid]; exact hcell j u hu⟩
    · cases h
  · rename_i id sz' off m' cap
    split at h
    · rename_i ob hob
      split at h
      · rename_i hb1 hb2 hst hpu
        obtain rfl := beq_t hb1
        have hb2 := beq_t hb2
        rw [Nat.blt_eq] at hst
        injection h with h; injection h with h1 h; injection h with e1 e2; subst h1 e1 e2
        have hg : ∀ k, (match off with | 0 => ob.f | off => fun k => ob.f (off + k)) k = ob.f (off + k) := fun k => by cases off <;> simp
        have empty : m' = 0 → (∃ A c, v = .slice A m' c) → ∃ (A : Option Addr) (c : Nat) (news : List Value), v = .slice A m' c ∧ news.length = m' * sz' ∧ (∀ u ∈ news, u.oneCell' = true) ∧ (m' ≠ 0 → ∃ a : Addr, A = some a ∧ ∀ j u, news[j]? = some u → w.cell? (a.add j) = some u) ∧ (∀ k, k < m' → ((match off with | 0 => ob.f | off => fun k => ob.f (off + k)) k).length = sz') ∧
            ∀ (k j : Nat) a v, k < m' → ((match off with | 0 => ob.f | off => fun k => ob.f (off + k)) k)[j]? = some a → news[k * sz' + j]? = some v → RV (OO X H μ) w noMu a v := by
          rintro rfl ⟨A, c, rfl⟩
          exact ⟨A, c, [], rfl, by simp, by simp, fun h => (h rfl).elim, fun k hk => by omega, fun k j a v hk => by omega⟩
        cases hv with
        | rowNil => exact empty rfl ⟨_, _, rfl⟩
        | rowE => exact empty rfl ⟨_, _, rfl⟩
        | row hm hn hc hcap hend =>
          rename_i b mb c
          obtain ⟨hz, cur, hin⟩ := hH.at_ hob hst hm
          subst hb2
          have hsz : (off + m') * ob.sz ≤ cur.size := by rw [hin.size]; exact Nat.mul_le_mul_right _ (by have := hin.nle; omega)
          rw [Nat.add_mul] at hsz
          have hl : ((cur.toList.drop (off * ob.sz)).take (m' * ob.sz)).length = m' * ob.sz := by simp; omega
          have hget : ∀ (k j : Nat) v, k < m' → j < ob.sz → ((cur.toList.drop (off * ob.sz)).take (m' * ob.sz))[k * ob.sz + j]? = some v → cur[(off + k) * ob.sz + j]? = some v := by
            intro k j v hk hj hv
            rw [List.getElem?_take] at hv
            split at hv
            · rw [Nat.add_mul, Nat.add_assoc]; simpa using hv
            · cases hv
          refine ⟨_, c, (cur.toList.drop (off * ob.sz)).take (m' * ob.sz), rfl, hl, fun u hu => ?_, fun _ => ⟨_, rfl, fun j u hu => ?_⟩, fun k hk => by rw [hg]; exact hin.flen _ (by omega), fun k j a v hk ha hv => ?_⟩
          · obtain ⟨p, hp⟩ := List.getElem?_of_mem hu
            have hlt : p < m' * ob.sz := by rw [← hl]; exact (List.getElem?_eq_some_iff.1 hp).1
            have hd := Nat.div_add_mod p ob.sz
            have hmod := Nat.mod_lt p hz
            have hlt2 : p / ob.sz < m' := Nat.div_lt_of_lt_mul (by rw [Nat.mul_comm]; exact hlt)
            exact hin.one (off + p / ob.sz) (p % ob.sz) u (by omega) hmod (hget _ _ u hlt2 hmod (by rw [show p / ob.sz * ob.sz + p % ob.sz = p by rw [Nat.mul_comm]; exact hd]; exact hp))
          · rw [Addr.add_mid, cell_of_row w b _ cur ob.T (0, 0) hin.blk]
            rw [List.getElem?_take] at hu
            split at hu
            · simpa using hu
            · cases hu
          · rw [hg] at ha
            have hj : j < ob.sz := by rw [← hin.flen (off + k) (by omega)]; exact (List.getElem?_eq_some_iff.1 ha).1
            have := hin.cell (off + k) j a v (by omega) ha (hget k j v hk hj hv)
            rw [hpu] at this; exact this
      · cases h
    · cases h
  · injection h with h; injection h with _ h; injection h with e1 e2; subst e1 e2
    cases hv
    exact ⟨none, 0, [], rfl, by simp, by simp, fun h => (h rfl).elim, fun k hk => by omega, fun k j a v hk => by omega⟩
  · cases h
def appF (n : Nat) (f g : Nat → List AV) : Nat → List AV := fun k => match Nat.blt k n with | true => f k | false => g (k - n)
theorem appF_lt {n k : Nat} {f g : Nat → List AV} (h : k < n) : appF n f g k = f k := by
  unfold appF
  have : Nat.blt k n = true := by rw [Nat.blt_eq]; exact h
  rw [this]
theorem appF_ge {n k : Nat} {f g : Nat → List AV} (h : n ≤ k) : appF n f g k = g (k - n) := by
  unfold appF
  have : Nat.blt k n = false := by
    cases hb : Nat.blt k n with
    | false => rfl
    | true => rw [Nat.blt_eq] at hb; omega
  rw [this]
/-- append(row, ..): the row may lie elsewhere behind it. -/
theorem append_row (hT : TabOk P tab) (hH : HRel μ X H w) {t e ty id n m : Nat} {i ei : TyI} (hi : tab t = some i) (hk : i.k = .slice e) (he : tab e = some ei) (hz : 0 < ei.sz) {ob : AObj} (hob : H[id]? = some ob) (hst : ob.st = 0) (hsz : ob.sz = ei.sz) (hTe : ob.T = e) (hpu0 : ob.pure = true) (hn : n ≤ ob.n)
    {s x : Value} (hs : RV (OO X H μ) w μ (.row id ei.sz 0 n none) s) {A : Option Addr} {c : Nat} {news : List Value} {g : Nat → List AV} (hx : x = .slice A m c) (hl : news.length = m * ei.sz) (h1 : ∀ u ∈ news, u.oneCell' = true)
    (hA : m ≠ 0 → ∃ a : Addr, A = some a ∧ ∀ j u, news[j]? = some u → w.cell? (a.add j) = some u) (hg : ∀ k, k < m → (g k).length = ei.sz) (hgr : ∀ (k j : Nat) a v, k < m → (g k)[j]? = some a → news[k * ei.sz + j]? = some v → RV (OO X H μ) w noMu a v)
    (h63 : n + m ≤ maxLen) (hby : (n + m) * ei.by_ ≤ 140737488355328) :
    MutOk P (do pure (.value (← Builtin.append_ #[t, t] ty #[s, x]))) X μ H w (.row id ei.sz 0 (n + m) none) ((H.map (forgetObj id)).set id { ob with n := n + m, f := appF n ob.f g, box := false }) (some id) := by
  have hidlt : id < H.length := (List.getElem?_eq_some_iff.1 hob).1
  have hu := (hT t i hi).und
  rw [hk] at hu; simp only [UndOk] at hu
  obtain ⟨f, hf, hfs, hfb, zv, hzv, hzc⟩ := (hT e ei he).info
  have hzs : zv.cells.size = ei.sz := by rw [← Array.length_toList, hzc, (hT e ei he).zlen]
  obtain ⟨xs, hown, hxs⟩ : ∃ xs, w.ownsRow 0 e ei.sz s n xs ∧ ((n = 0 ∧ xs = []) ∨ ∃ b mb cur, μ id = some (some (b, mb)) ∧ ObjIn (OO X H μ) w μ b mb ob cur ∧ xs = cur.toList.take (n * ei.sz)) := by
    cases hs with
    | rowNil h hc => exact ⟨[], World.ownsRow_nil w 0 e ei.sz, .inl ⟨rfl, rfl⟩⟩
    | rowE h hc ho => exact (ho rfl).elim
    | row h h2 h3 h4 h5 =>
      rename_i b mb c'
      obtain ⟨_, cur, hin⟩ := hH.at_ (by rw [nth_eq]; exact hob) (by omega) h
      have h5 := h5 rfl
      have hcs : n * ei.sz ≤ cur.size := by rw [hin.size, hsz]; exact Nat.mul_le_mul_right _ (by omega)
      refine ⟨cur.toList.take (n * ei.sz), ⟨by simp; omega, .inr ⟨b, c', cur, by simp, Nat.zero_le _, by rw [← hTe]; exact hin.blk, h2, by have := hin.le; omega, by rw [hin.size, hsz]; congr 1; omega, rfl⟩⟩, .inr ⟨b, mb, cur, h, hin, rfl⟩⟩
  have happ : ∃ v' w', (Builtin.append_ #[t, t] ty #[s, x]).run P w = .ok v' w' ∧ w'.ownsRow 0 e ei.sz v' (n + m) (xs ++ news) ∧ w.grownBy w' s.ownBlock ∧ (v'.ownBlock = s.ownBlock ∨ v'.ownBlock = some w.heap.size) := by
    subst hx
    by_cases hm : m = 0
    · subst hm
      have : news = [] := List.eq_nil_of_length_eq_zero (by simpa using hl)
      subst this
      refine ⟨s, w, run_append_nil' w 0 t ty e f ei.sz hu hf s n xs hown A c, by simpa using hown, World.grownBy.refl w _, .inl rfl⟩
    · obtain ⟨a, rfl, hcell⟩ := hA hm
      obtain ⟨v', w', g1, g2, g3, _, g5⟩ := run_append_own_at (P := P) w 0 t ty e f zv ei.sz ei.by_ hu hf hzv hfs hfb hzs hz s n xs hown a m c news hl hcell h1 h63 hby (Nat.zero_le _)
      exact ⟨v', w', g1, g2, g3, g5⟩
  obtain ⟨v', w', hrun, hown', hgr', hblk'⟩ := happ
  have hsb : ∀ b, s.ownBlock = some b → ∃ m', μ id = some (some (b, m')) := by
    intro b hb
    cases hs with
    | rowNil h hc => cases hb
    | rowE h hc ho => exact (ho rfl).elim
    | row h h2 h3 h4 h5 => simp [Value.ownBlock] at hb; subst hb; exact ⟨_, h⟩
  -- where it lies now
  obtain ⟨l', hl'⟩ : ∃ l' : Loc, (l' = none ∧ v' = .slice none 0 0 ∧ n + m = 0) ∨ ∃ b cap cur, l' = some (b, cap) ∧ v' = .slice (some ⟨b, 0, none⟩) (n + m) cap ∧ w'.heap[b]? = some (.cells cur e (0, 0)) ∧ n + m ≤ cap ∧ cap ≤ maxLen ∧ cur.size = cap * ei.sz ∧ cur.toList.take ((n + m) * ei.sz) = xs ++ news := by
    rcases hown'.2 with ⟨h1, h2⟩ | ⟨b, cap, cur, h1, _, h2, h3, h4, h5, h6⟩
    · exact ⟨none, .inl ⟨rfl, h1, h2⟩⟩
    · exact ⟨some (b, cap), .inr ⟨b, cap, cur, rfl, h1, h2, h3, h4, h5, h6⟩⟩
  let ob' : AObj := { ob with n := n + m, f := appF n ob.f g, box := false }
  let μ' : Mu := fun i => if i = id then some l' else μ i
  have hpu : Puts μ μ' X H ((H.map (forgetObj id)).set id ob') w w' id :=
    ⟨⟨ob, hob, hst⟩, by simp, fun i o' hi ho => by
      rw [List.getElem?_set_ne (Ne.symm hi)] at ho
      simp only [List.getElem?_map, Option.map_eq_some_iff] at ho
      obtain ⟨o1, h1, rfl⟩ := ho
      exact ⟨o1, h1, forgetObj_st _ _⟩, fun i hi => by simp only [μ']; rw [if_neg hi], fun l hl b mm he => by
      simp only [μ', if_true] at hl
      injection hl with hl; subst hl
      rcases hl' with ⟨h1, _⟩ | ⟨b', cap, cur, h1, h2, h3, _⟩
      · rw [h1] at he; cases he
      · rw [h1] at he; injection he with he; injection he with e1 e2; subst e1 e2
        refine ⟨(Array.getElem?_eq_some_iff.1 h3).1, ?_⟩
        have hvb : v'.ownBlock = some b' := by rw [h2]; rfl
        rcases hblk' with h4 | h4
        · exact .inl (hsb b' (by rw [← h4]; exact hvb))
        · rw [hvb] at h4; injection h4 with h4; exact .inr (by omega), hgr'.size, hgr'.os, hgr'.tape, hgr'.output, fun b hb hn => hgr'.block b hb fun he => by
          obtain ⟨m', hm'⟩ := hsb b he.symm
          exact hn m' hm'⟩
  have hrel := hpu.rel hH (hpu.others' hH fun i hi => by rw [List.getElem?_set_ne (Ne.symm hi), List.getElem?_map]) fun o' ho' _ => by
    rw [List.getElem?_set_self (by simpa using hidlt)] at ho'
    injection ho' with ho'; subst ho'
    refine ⟨by simp only [ob']; rw [hsz]; exact hz, ?_⟩
    rcases hl' with ⟨e1, h2, h3⟩ | ⟨b, cap, cur, e1, h2, h3, h4, h5, h6, h7⟩
    · exact .inl ⟨by simp [μ', e1], h3⟩
    · have hcur : ∀ (k j : Nat) v, k < n + m → j < ei.sz → cur[k * ei.sz + j]? = some v → (xs ++ news)[k * ei.sz + j]? = some v := by
        intro k j v hk hj hv
        rw [← h7, List.getElem?_take, if_pos]
        · simpa using hv
        · have : (k + 1) * ei.sz ≤ (n + m) * ei.sz := Nat.mul_le_mul_right _ (by omega)
          rw [Nat.add_mul] at this; omega
      have hxl : xs.length = n * ei.sz := hown.1
      have hold : ∀ (k j : Nat) v, k < n → j < ei.sz → (xs ++ news)[k * ei.sz + j]? = some v → ∃ b mb cur0, μ id = some (some (b, mb)) ∧ ObjIn (OO X H μ) w μ b mb ob cur0 ∧ cur0[k * ei.sz + j]? = some v := by
        intro k j v hk hj hv
        have hlt : k * ei.sz + j < n * ei.sz := by
          have : (k + 1) * ei.sz ≤ n * ei.sz := Nat.mul_le_mul_right _ hk
          rw [Nat.add_mul] at this; omega
        rw [List.getElem?_append_left (by omega)] at hv
        rcases hxs with ⟨h0, _⟩ | ⟨b, mb, cur0, g1, g2, g3⟩
        · omega
        · refine ⟨b, mb, cur0, g1, g2, ?_⟩
          rw [g3, List.getElem?_take, if_pos hlt] at hv
          simpa using hv
      have hnew : ∀ (k j : Nat) v, n ≤ k → j < ei.sz → (xs ++ news)[k * ei.sz + j]? = some v → news[(k - n) * ei.sz + j]? = some v := by
        intro k j v hk hj hv
        have hge : n * ei.sz ≤ k * ei.sz := Nat.mul_le_mul_right _ hk
        rw [List.getElem?_append_right (by omega), hxl] at hv
        rw [← hv, Nat.sub_mul]; congr 1; omega
      refine .inr ⟨b, cap, cur, by simp [μ', e1], ⟨by simp only [ob']; rw [hTe]; exact h3, by simp only [ob']; rw [hsz]; exact h6, h5, h4, ?_, ?_, ?_⟩⟩
      · simp only [ob']; rw [hsz]
        intro k j v hk hj hv
        have hv := hcur k j v hk hj hv
        by_cases hkn : k < n
        · obtain ⟨_, _, cur0, _, g2, g3⟩ := hold k j v hkn hj hv
          rw [← hsz] at g3 hj
          exact g2.one k j v (by omega) hj g3
        · exact h1 v (List.mem_of_getElem? (hnew k j v (by omega) hj hv))
      · simp only [ob']; rw [hsz]
        intro k hk
        by_cases hkn : k < n
        · rw [appF_lt hkn]
          rcases hxs with ⟨h0, _⟩ | ⟨b, mb, cur0, g1, g2, g3⟩
          · omega
          · rw [g2.flen k (by omega), hsz]
        · rw [appF_ge (by omega)]; exact hg _ (by omega)
      · intro k j a v hk ha hv
        have hk : k < n + m := hk
        have ha : (appF n ob.f g k)[j]? = some a := ha
        have hv : cur[k * ei.sz + j]? = some v := by rw [← hsz]; exact hv
        show RV _ _ (if ob.pure then noMu else μ') a v
        by_cases hkn : k < n
        · rw [appF_lt hkn] at ha
          have hj : j < ei.sz := by
            rcases hxs with ⟨h0, _⟩ | ⟨b, mb, cur0, g1, g2, g3⟩
            · omega
            · rw [← hsz, ← g2.flen k (by omega)]; exact (List.getElem?_eq_some_iff.1 ha).1
          obtain ⟨_, _, cur0, _, g2, g3⟩ := hold k j v hkn hj (hcur k j v hk hj hv)
          rw [← hsz] at g3
          have hr := g2.cell k j a v (by omega) ha g3
          rw [hpu0] at hr
          have hr' := RV.mono hpu.oo hpu.moved.blk hr noMu fun _ _ h => h
          split
          · exact hr'
          · exact hr'.up
        · rw [appF_ge (by omega)] at ha
          have hj : j < ei.sz := by rw [← hg (k - n) (by omega)]; exact (List.getElem?_eq_some_iff.1 ha).1
          have hr := hgr (k - n) j a v (by omega) ha (hnew k j v (by omega) hj (hcur k j v hk hj hv))
          have hr' := hr.mono hpu.oo hpu.moved.blk noMu fun _ _ h => h
          split
          · exact hr'
          · exact hr'.up
  refine ⟨.value v', v', w', μ', by simp [hrun], .inl rfl, hrel, hpu.ext, hpu.chg, ?_, fun k a v h => ⟨forget_rv (hpu.moved.upto k) 4 h, fun hk => h.mono hpu.oo hpu.moved.blk _ fun i l hi => ?_⟩⟩
  rotate_left
  · have hk := hk id rfl
    unfold upto at hi ⊢
    split at hi
    · rename_i hlt; rw [if_pos hlt]; exact hpu.moved.mu i l (by omega) hi
    · cases hi
  rcases hl' with ⟨h1, rfl, h3⟩ | ⟨b, cap, cur, h1, rfl, h3, h4, h5, h6, h7⟩
  · rw [h3]; exact .rowNil (by simp [μ', h1]) (.inl rfl)
  · have := RV.row (O := OO X ((H.map (forgetObj id)).set id ob') μ') (w := w') (μ := μ') (i := id) (sz := ei.sz) (off := 0) (n := n + m) (c := cap) (m := cap) (cap := none) (show μ' id = some (some (b, cap)) by simp only [μ', if_true, h1]) h4 (by omega) (fun q h => by cases h) (fun _ => by omega)
    simpa using this
end Go.Proofs.YthcoccoanpmhgaaDoor
