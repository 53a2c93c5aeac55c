/- A region that draws its order, walked in the text's order: its first operations write nothing that is there; each is shown to do what it does wherever what it waits for has been done. -/
import Derived.Test.YthcoccoanpmhgaaDoorAWp5
import Derived.Test.YthcoccoanpmhgaaDoorReg
import Derived.OrdersIn
namespace Go.Proofs.YthcoccoanpmhgaaDoor
open Go.RowKit
set_option linter.unusedVariables false
set_option linter.unusedSimpArgs false
set_option linter.unusedSectionVars false
variable {P : Program} {tab : Tab} {X : Nat → Prop} {H H' : List AObj} {μ μ' : Mu} {w w' : World} {O O' : Nat → Prop}

/-- What an operation answers, and the object that it makes. -/
structure DR where
  x : AV
  N : Option AObj
def DR.news (d : DR) (b : Bool) : List AObj := match d.N with | none => [] | some ob => [match b with | true => ob | false => { ob with st := 2 }]
def setD (s : List AV) (t : Option Tmp) (x : AV) : List AV := match t with | some t => setn s t x | none => s
def slotsS (S : Nat → Bool) : Nat → List (Oper × DR) → List AV → List AV
  | _, [], s => s
  | k, p :: r, s => slotsS S (k + 1) r (match S k with | true => setD s p.1.dst p.2.x | false => s)
def newsS (S : Nat → Bool) : Nat → List (Oper × DR) → List AObj
  | _, [] => []
  | k, p :: r => p.2.news (S k) ++ newsS S (k + 1) r
def σS (σ : St) (D : List (Oper × DR)) (S : Nat → Bool) : St := ⟨slotsS S 0 D σ.s, σ.H ++ newsS S 0 D, σ.fg, σ.nb⟩
def nNews : List (Oper × DR) → Nat
  | [] => 0
  | p :: r => (match p.2.N with | none => 0 | some _ => 1) + nNews r
theorem news_len (d : DR) (b : Bool) : (d.news b).length = (match d.N with | none => 0 | some _ => 1) := by unfold DR.news; cases d.N <;> rfl
theorem newsS_len (S : Nat → Bool) : ∀ (k : Nat) (D : List (Oper × DR)), (newsS S k D).length = nNews D
  | _, [] => rfl
  | k, p :: r => by simp [newsS, nNews, news_len, newsS_len S (k + 1) r]
theorem setD_len (s : List AV) (t : Option Tmp) (x : AV) : (setD s t x).length = s.length := by cases t <;> simp [setD, setn_eq]
theorem slotsS_len (S : Nat → Bool) : ∀ (k : Nat) (D : List (Oper × DR)) (s : List AV), (slotsS S k D s).length = s.length
  | _, [], _ => rfl
  | k, p :: r, s => by
    simp only [slotsS]
    rw [slotsS_len S (k + 1) r]
    split <;> simp [setD_len]
theorem setD_ne {s : List AV} {d : Option Tmp} {x : AV} {t : Nat} (h : d ≠ some t) : (setD s d x)[t]? = s[t]? := by
  cases d with
  | none => rfl
  | some d => simp only [setD, setn_eq]; exact List.getElem?_set_ne (by rintro rfl; exact h rfl)
theorem setD_eq {s : List AV} {x : AV} {t : Nat} (h : t < s.length) : (setD s (some t) x)[t]? = some x := by simp only [setD, setn_eq]; exact List.getElem?_set_self h
theorem slotsS_no (S : Nat → Bool) (t : Nat) : ∀ (k : Nat) (D : List (Oper × DR)) (s : List AV), (∀ (j : Nat) p, D[j]? = some p → S (k + j) = true → p.1.dst ≠ some t) → (slotsS S k D s)[t]? = s[t]?
  | _, [], _, _ => rfl
  | k, p :: r, s, h => by
    simp only [slotsS]
    rw [slotsS_no S t (k + 1) r _ fun j q hq hs => h (j + 1) q (by simpa using hq) (by rw [← hs]; congr 1; omega)]
    split
    · rename_i hs; exact setD_ne (h 0 p rfl (by simpa using hs))
    · rfl
theorem slotsS_at (S : Nat → Bool) (t : Nat) : ∀ (k : Nat) (D : List (Oper × DR)) (s : List AV) (j : Nat) (p : Oper × DR), D[j]? = some p → S (k + j) = true → p.1.dst = some t → t < s.length → (∀ (j' : Nat) q, D[j']? = some q → j' ≠ j → q.1.dst ≠ some t) → (slotsS S k D s)[t]? = some p.2.x
  | _, [], _, j, p, h, _, _, _, _ => by simp at h
  | k, p0 :: r, s, 0, p, h, hs, hd, hl, hu => by
    simp at h; subst h
    simp only [slotsS]
    simp only [Nat.add_zero] at hs
    rw [slotsS_no S t (k + 1) r _ fun j q hq _ => hu (j + 1) q (by simpa using hq) (by omega), hs]
    simp only
    rw [hd]; exact setD_eq hl
  | k, p0 :: r, s, j + 1, p, h, hs, hd, hl, hu => by
    simp only [slotsS]
    refine slotsS_at S t (k + 1) r _ j p (by simpa using h) (by rw [← hs]; congr 1; omega) hd (by split <;> simp [setD_len, hl]) fun j' q hq hne => hu (j' + 1) q (by simpa using hq) (by omega)
/-- The number of the object that operation k makes. -/
def idD (n : Nat) (D : List (Oper × DR)) (k : Nat) : Nat := n + nNews (D.take k)
theorem newsS_get (S : Nat → Bool) : ∀ (k : Nat) (D : List (Oper × DR)) (j : Nat) (p : Oper × DR) (ob : AObj), D[j]? = some p → p.2.N = some ob → (newsS S k D)[nNews (D.take j)]? = some (match S (k + j) with | true => ob | false => { ob with st := 2 })
  | _, [], j, p, ob, h, _ => by simp at h
  | k, p0 :: r, 0, p, ob, h, hN => by
    simp at h; subst h
    simp [newsS, nNews, DR.news, hN]
  | k, p0 :: r, j + 1, p, ob, h, hN => by
    simp only [newsS, List.take_succ_cons, nNews]
    rw [List.getElem?_append_right (by rw [news_len]; omega), news_len, Nat.add_sub_cancel_left]
    have := newsS_get S (k + 1) r j p ob (by simpa using h) hN
    rw [this, show k + 1 + j = k + (j + 1) by omega]
theorem newsS_all (S : Nat → Bool) : ∀ (k : Nat) (D : List (Oper × DR)) (i : Nat) (o : AObj), (newsS S k D)[i]? = some o → ∃ (j : Nat) (p : Oper × DR) (ob : AObj), D[j]? = some p ∧ p.2.N = some ob ∧ i = nNews (D.take j) ∧ o = (match S (k + j) with | true => ob | false => { ob with st := 2 })
  | _, [], i, o, h => by simp [newsS] at h
  | k, p0 :: r, i, o, h => by
    simp only [newsS] at h
    by_cases hlt : i < (p0.2.news (S k)).length
    · rw [List.getElem?_append_left hlt] at h
      unfold DR.news at h
      cases hN : p0.2.N with
      | none => rw [hN] at h; simp at h
      | some ob =>
        rw [hN] at h
        have : i = 0 := by rw [news_len, hN] at hlt; simp only at hlt; omega
        subst this
        simp at h
        exact ⟨0, p0, ob, rfl, hN, rfl, h.symm⟩
    · rw [List.getElem?_append_right (by omega)] at h
      obtain ⟨j, p, ob, h1, h2, h3, h4⟩ := newsS_all S (k + 1) r _ o h
      refine ⟨j + 1, p, ob, by simpa using h1, h2, ?_, by rw [h4, show k + 1 + j = k + (j + 1) by omega]⟩
      rw [news_len] at h3 hlt
      simp only [List.take_succ_cons, nNews]
      omega
theorem nNews_inj : ∀ (D : List (Oper × DR)) (i j : Nat) (p q : Oper × DR) (a b : AObj), D[i]? = some p → D[j]? = some q → p.2.N = some a → q.2.N = some b → nNews (D.take i) = nNews (D.take j) → i = j
  | [], i, j, p, q, a, b, h, _, _, _, _ => by simp at h
  | p0 :: r, 0, 0, p, q, a, b, h1, h2, h3, h4, h5 => rfl
  | p0 :: r, 0, j + 1, p, q, a, b, h1, h2, h3, h4, h5 => by
    simp at h1; subst h1
    simp [nNews, h3] at h5
    omega
  | p0 :: r, i + 1, 0, p, q, a, b, h1, h2, h3, h4, h5 => by
    simp at h2; subst h2
    simp [nNews, h4] at h5
  | p0 :: r, i + 1, j + 1, p, q, a, b, h1, h2, h3, h4, h5 => by
    simp only [List.take_succ_cons, nNews] at h5
    have := nNews_inj r i j p q a b (by simpa using h1) (by simpa using h2) h3 h4 (by omega)
    omega

/-- What an operation does in whatever world its operands read so. -/
def DStep (P : Program) (ev : Operand → AV) (H0 : List AObj) (id : Nat) (o : Oper) (d : DR) : Prop :=
  ∀ (w : World) (X : Nat → Prop) (μ : Mu) (H : List AObj) (ρ : Operand → Value), HRel μ X H w → (∀ (i : Nat) ob, H0[i]? = some ob → H[i]? = some ob) → (∀ y ∈ o.op.operands, RV (OO X H μ) w μ (ev y) (ρ y)) →
    StepOk P (execOp ρ o) w fun u w' => Below w.heap.size w w' ∧ match d.N with
      | none => RV (OO X H μ) w' μ d.x u
      | some ob => ∃ b m cur, w.heap.size ≤ b ∧ b < w'.heap.size ∧ 0 < ob.sz ∧ ob.st = 0 ∧ ObjIn (fun c => OO X H μ c ∨ c = b) w' μ b m ob cur ∧ ∀ (O' : Nat → Prop) (μ' : Mu), (∀ c, O' c → OO X H μ c ∨ c = b) → (∀ i l, μ i = some l → μ' i = some l) → μ' id = some (some (b, m)) → RV O' w' μ' d.x u
/-- The check: nobody names what another one answers but behind it; who is behind the first ones is behind all. -/
def opTmps (o : Oper) : List Nat := o.op.operands.toList.filterMap fun | .tmp t => some t | _ => none
def okP (l : List Oper) (m : Nat) : Bool :=
  (List.range m).all fun k => match nth l k with
    | some o => (List.range m).all (fun j => match nth l j with
        | some oj => match oj.dst with
          | some t => (k == j || o.dst != some t) && (!(opTmps o).contains t || anc l.toArray k j)
          | none => true
        | none => false) && (match o.guard with | some (j, _) => anc l.toArray k j && Nat.blt j m | none => true)
    | none => false
def okD (l : List Oper) (m : Nat) : Bool := okS l.toArray m && okP l m
structure OkS0 (ops : Array Oper) (m : Nat) : Prop where
  lt : ∀ (i : Nat) (o : Oper), ops[i]? = some o → ∀ e ∈ o.after, Region.binds .any e = true → e.on < i
  free : ∀ (i j : Nat) (oi oj : Oper), ops[i]? = some oi → ops[j]? = some oj → j < i → anc ops j i = false ∧ (anc ops i j = true ∨ oj.apart ops oi = true)
  sel : ∀ (i : Nat) (o : Oper), ops[i]? = some o → noSel o
  le : m ≤ ops.size
theorem OkS.s0 {ops : Array Oper} {m : Nat} (h : OkS ops m) : OkS0 ops m := ⟨h.lt, h.free, h.sel, h.le⟩
structure OkD (l : List Oper) (m : Nat) : Prop where
  s : OkS0 l.toArray m
  dst : ∀ (k j : Nat) o oj t, k < m → j < m → l[k]? = some o → l[j]? = some oj → oj.dst = some t → k ≠ j → o.dst ≠ some t
  rd : ∀ (k j : Nat) o oj t, k < m → j < m → l[k]? = some o → l[j]? = some oj → oj.dst = some t → t ∈ opTmps o → anc l.toArray k j = true
  gd : ∀ (k : Nat) o j b, k < m → l[k]? = some o → o.guard = some (j, b) → anc l.toArray k j = true ∧ j < m
theorem okD_of {l : List Oper} {m : Nat} (h1 : OkS0 l.toArray m) (h2 : okP l m = true) : OkD l m := by
  unfold okP at h2
  have h2 : ∀ k, k < m → _ := fun k hk => List.all_eq_true.1 h2 k (List.mem_range.2 hk)
  have key : ∀ (k j : Nat) o oj t, k < m → j < m → l[k]? = some o → l[j]? = some oj → oj.dst = some t → (k == j || o.dst != some t) = true ∧ (!(opTmps o).contains t || anc l.toArray k j) = true := by
    intro k j o oj t hk hj ho hoj ht
    have := h2 k hk
    rw [nth_eq, ho] at this
    simp only [Bool.and_eq_true] at this
    have := List.all_eq_true.1 this.1 j (List.mem_range.2 hj)
    rw [nth_eq, hoj] at this
    simp only [ht, Bool.and_eq_true] at this
    exact this
  refine ⟨h1, fun k j o oj t hk hj ho hoj ht hne => ?_, fun k j o oj t hk hj ho hoj ht hm => ?_, fun k o j b hk ho hg => ?_⟩
  · have := (key k j o oj t hk hj ho hoj ht).1
    simp only [Bool.or_eq_true, beq_iff_eq, bne_iff_ne] at this
    exact this.resolve_left hne
  · have := (key k j o oj t hk hj ho hoj ht).2
    simp only [Bool.or_eq_true, Bool.not_eq_true', List.contains_iff_mem] at this
    rcases this with h | h
    · have : (opTmps o).contains t = true := by simpa using hm
      rw [h] at this; cases this
    · exact h
  · have := h2 k hk
    rw [nth_eq, ho] at this
    simp only [Bool.and_eq_true, hg] at this
    have := this.2
    rw [Nat.blt_eq] at this
    exact this

theorem okD_spec {l : List Oper} {m : Nat} (h : okD l m = true) : OkD l m := by
  unfold okD at h
  rw [Bool.and_eq_true] at h
  exact okD_of (okS_spec h.1).s0 h.2
theorem okD_s {l : List Oper} {m : Nat} (h : okD l m = true) : OkS l.toArray m := by
  unfold okD at h
  rw [Bool.and_eq_true] at h
  exact okS_spec h.1
def txt (k : Nat) : Nat → Bool := fun j => Nat.blt j k
def add (S : Nat → Bool) (k : Nat) : Nat → Bool := fun j => j == k || S j
/-- Operation k, as the text's order finds it, is shown to do what it is said to do. -/
def CStep (P : Program) (l : List Oper) (σ : St) (D : List (Oper × DR)) (k : Nat) : Prop :=
  ∀ p, D[k]? = some p → (wantA l (σS σ D (txt k)) p.1 = some true ∧ DStep P (σS σ D (txt k)).ev σ.H (idD σ.H.length D k) p.1 p.2) ∨ (wantA l (σS σ D (txt k)) p.1 = some false ∧ p.2 = ⟨.lit undef, none⟩)
structure DOk (l : List Oper) (m : Nat) (D : List (Oper × DR)) : Prop where
  ok : OkD l m
  len : D.length = m
  op : ∀ (k : Nat) p, D[k]? = some p → l[k]? = some p.1
section
variable {l : List Oper} {m : Nat} {D : List (Oper × DR)} {σ : St} {S : Nat → Bool} {B : Base P} {a : Act}
theorem DOk.lt (h : DOk l m D) {k : Nat} {p : Oper × DR} (hk : D[k]? = some p) : k < m := by rw [← h.len]; exact (List.getElem?_eq_some_iff.1 hk).1
theorem DOk.uniq (h : DOk l m D) {j j' : Nat} {p q : Oper × DR} {t : Nat} (hp : D[j]? = some p) (hq : D[j']? = some q) (hne : j' ≠ j) (hd : p.1.dst = some t) : q.1.dst ≠ some t :=
  h.ok.dst j' j q.1 p.1 t (h.lt hq) (h.lt hp) (h.op _ _ hq) (h.op _ _ hp) hd hne
theorem slot_in (h : DOk l m D) {j : Nat} {p : Oper × DR} {t : Nat} (hp : D[j]? = some p) (hs : S j = true) (hd : p.1.dst = some t) (hl : t < σ.s.length) : (σS σ D S).s[t]? = some p.2.x :=
  slotsS_at S t 0 D σ.s j p hp (by simpa using hs) hd hl fun j' q hq hne => h.uniq hp hq hne hd
theorem slot_out {t : Nat} (hn : ∀ (j : Nat) p, D[j]? = some p → S j = true → p.1.dst ≠ some t) : (σS σ D S).s[t]? = σ.s[t]? :=
  slotsS_no S t 0 D σ.s fun j p hp hs => hn j p hp (by simpa using hs)
theorem slot_len : (σS σ D S).s.length = σ.s.length := slotsS_len S 0 D σ.s
theorem anc_lt' (h : OkS0 l.toArray m) (j : Nat) : ∀ (k : Nat), k < l.toArray.size → anc l.toArray k j = true → j < k := by
  intro k
  induction k using Nat.strongRecOn with
  | _ k ih =>
    intro hk ha
    obtain ⟨e, he, hb, hh⟩ := (anc_iff (Array.getElem?_eq_getElem hk) (h.lt k _ (Array.getElem?_eq_getElem hk)) j).1 ha
    have h1 := h.lt k _ (Array.getElem?_eq_getElem hk) e he hb
    rcases hh with hh | hh
    · omega
    · have := ih e.on h1 (by omega) hh; omega
theorem anc_lt (h : DOk l m D) {k j : Nat} (hk : k < m) (ha : anc l.toArray k j = true) : j ≤ k := by
  have := anc_lt' h.ok.s j k (Nat.lt_of_lt_of_le hk h.ok.s.le) ha
  omega
theorem slot_same (h : DOk l m D) {k t : Nat} (hk : k < m) (hS : S k = false) (hanc : ∀ j, anc l.toArray k j = true → S j = true) (hr : ∀ (j : Nat) p, D[j]? = some p → p.1.dst = some t → anc l.toArray k j = true) :
    (σS σ D S).s[t]? = (σS σ D (txt k)).s[t]? := by
  by_cases hl : t < σ.s.length
  · by_cases he : ∃ (j : Nat) (p : Oper × DR), D[j]? = some p ∧ p.1.dst = some t
    · obtain ⟨j, p, hp, hd⟩ := he
      have ha := hr j p hp hd
      have hj := anc_lt h hk ha
      have hne : j ≠ k := by rintro rfl; rw [hanc j ha] at hS; cases hS
      rw [slot_in h hp (hanc j ha) hd hl, slot_in h hp (by unfold txt; rw [Nat.blt_eq]; omega) hd hl]
    · rw [slot_out fun j p hp _ hd => he ⟨j, p, hp, hd⟩, slot_out fun j p hp _ hd => he ⟨j, p, hp, hd⟩]
  · rw [List.getElem?_eq_none (by rw [slot_len]; omega), List.getElem?_eq_none (by rw [slot_len]; omega)]
theorem want_same (h : DOk l m D) {k : Nat} {p : Oper × DR} (hp : D[k]? = some p) (hS : S k = false) (hanc : ∀ j, anc l.toArray k j = true → S j = true) : wantA l (σS σ D S) p.1 = wantA l (σS σ D (txt k)) p.1 := by
  unfold wantA
  cases hg : p.1.guard with
  | none => rfl
  | some g =>
    obtain ⟨j, b⟩ := g
    simp only
    cases hj : nth l j with
    | none => rfl
    | some oj =>
      simp only
      cases hd : oj.dst with
      | none => rfl
      | some t =>
        simp only [nth_eq]
        have hjm := (h.ok.gd k p.1 j b (h.lt hp) (h.op k p hp) hg)
        rw [slot_same h (h.lt hp) hS hanc fun j' q hq hdq => by
          have : j' = j := by
            apply Classical.byContradiction
            intro hne
            rw [nth_eq] at hj
            exact h.ok.dst j' j q.1 oj t (h.lt hq) hjm.2 (h.op _ _ hq) hj hd hne hdq
          rw [this]; exact hjm.1]
theorem ev_same (h : DOk l m D) {k : Nat} {p : Oper × DR} (hp : D[k]? = some p) (hS : S k = false) (hanc : ∀ j, anc l.toArray k j = true → S j = true) : ∀ y ∈ p.1.op.operands, (σS σ D S).ev y = (σS σ D (txt k)).ev y := by
  intro y hy
  cases y with
  | tmp t =>
    simp only [St.ev, nth_eq]
    rw [slot_same h (h.lt hp) hS hanc fun j q hq hd => h.ok.rd k j p.1 q.1 t (h.lt hp) (h.lt hq) (h.op _ _ hp) (h.op _ _ hq) hd (by
      unfold opTmps
      rw [List.mem_filterMap]
      exact ⟨_, Array.mem_toList_iff.2 hy, rfl⟩)]
  | const | func | global => rfl
/-- No number yet for what is not made. -/
def Un (μ : Mu) (n : Nat) (D : List (Oper × DR)) (S : Nat → Bool) : Prop := ∀ (k : Nat) p ob, D[k]? = some p → p.2.N = some ob → S k = false → μ (idD n D k) = none
theorem H_old (i : Nat) (ob : AObj) (hi : σ.H[i]? = some ob) : (σS σ D S).H[i]? = some ob := by
  have hlt := (List.getElem?_eq_some_iff.1 hi).1
  simp only [σS]
  rw [List.getElem?_append_left hlt]; exact hi
theorem H_len : (σS σ D S).H.length = σ.H.length + nNews D := by simp [σS, newsS_len]
theorem idD_at {k : Nat} {p : Oper × DR} {ob : AObj} (hp : D[k]? = some p) (hN : p.2.N = some ob) : (σS σ D S).H[idD σ.H.length D k]? = some (match S k with | true => ob | false => { ob with st := 2 }) := by
  simp only [σS, idD]
  rw [List.getElem?_append_right (by omega), Nat.add_sub_cancel_left]
  have := newsS_get S 0 D k p ob hp hN
  rw [Nat.zero_add] at this
  exact this
theorem H_cases {i : Nat} {o : AObj} (hi : (σS σ D S).H[i]? = some o) : (i < σ.H.length ∧ σ.H[i]? = some o) ∨ ∃ (k : Nat) (p : Oper × DR) (ob : AObj), D[k]? = some p ∧ p.2.N = some ob ∧ i = idD σ.H.length D k ∧ o = (match S k with | true => ob | false => { ob with st := 2 }) := by
  simp only [σS] at hi
  by_cases hlt : i < σ.H.length
  · rw [List.getElem?_append_left hlt] at hi
    exact .inl ⟨hlt, hi⟩
  · rw [List.getElem?_append_right (by omega)] at hi
    obtain ⟨k, p, ob, h1, h2, h3, h4⟩ := newsS_all S 0 D _ o hi
    exact .inr ⟨k, p, ob, h1, h2, by unfold idD; omega, by rw [Nat.zero_add] at h4; exact h4⟩
theorem add_ne {k j : Nat} (h : j ≠ k) : add S k j = S j := by simp [add, h]
theorem add_eq {k : Nat} : add S k k = true := by simp [add]
/-- Slots, once operation k has answered. -/
theorem slots_add (h : DOk l m D) {k : Nat} {p : Oper × DR} (hp : D[k]? = some p) (hS : S k = false) {t : Nat} (ht : p.1.dst ≠ some t) : (σS σ D (add S k)).s[t]? = (σS σ D S).s[t]? := by
  by_cases hl : t < σ.s.length
  · by_cases he : ∃ (j : Nat) (q : Oper × DR), D[j]? = some q ∧ S j = true ∧ q.1.dst = some t
    · obtain ⟨j, q, hq, hs, hd⟩ := he
      rw [slot_in h hq (by simp [add, hs]) hd hl, slot_in h hq hs hd hl]
    · rw [slot_out (S := S) fun j q hq hs hd => he ⟨j, q, hq, hs, hd⟩, slot_out fun j q hq hs hd => ?_]
      by_cases hj : j = k
      · subst hj; rw [hp] at hq; injection hq with hq; subst hq; exact ht hd
      · rw [add_ne hj] at hs; exact he ⟨j, q, hq, hs, hd⟩
  · rw [List.getElem?_eq_none (by rw [slot_len]; omega), List.getElem?_eq_none (by rw [slot_len]; omega)]
/-- Operation k has answered without an object. -/
theorem step_plain (h : DOk l m D) {k : Nat} {p : Oper × DR} (hp : D[k]? = some p) (hS : S k = false) (hN : p.2.N = none) (hr : SRel B μ (σS σ D S) a w) (hb : Below w.heap.size w w') {u : Value} (hu : RV (OO B.X (σS σ D S).H μ) w' μ p.2.x u) :
    SRel B μ (σS σ D (add S k)) (a.put p.1.dst u) w' := by
  have hH : (σS σ D (add S k)).H = (σS σ D S).H := by
    have : ∀ i : Nat, (σS σ D (add S k)).H[i]? = (σS σ D S).H[i]? := by
      intro i
      cases hi : (σS σ D S).H[i]? with
      | none => rw [List.getElem?_eq_none_iff] at hi ⊢; rw [H_len] at hi ⊢; exact hi
      | some o =>
        rcases H_cases hi with ⟨hlt, h1⟩ | ⟨j, q, ob, h1, h2, h3, h4⟩
        · exact H_old i o h1
        · have hj : j ≠ k := by rintro rfl; rw [hp] at h1; injection h1 with h1; subst h1; rw [hN] at h2; cases h2
          rw [h3, idD_at h1 h2, add_ne hj, h4]
    exact List.ext_getElem? this
  refine ⟨?_, fun t x v hx hv => ?_, by rw [hH]; exact hr.H.below hb, by have := hr.df.step (Chg.of_below hb) (Ext.refl _ _) (hr.H.below hb).lt; cases hd : p.1.dst <;> exact this, hr.chg.trans hr.ext (.of_below hb), hr.ext.trans hr.chg.size (Ext.refl _ _), hr.nb, by rw [hH]; exact hr.le, fun j x v hj hx => by rw [hH]; exact (hr.pres j x v hj hx).later hb⟩
  · rw [slot_len, ← slot_len (S := S) (D := D), hr.size]; cases p.1.dst <;> simp [Act.put]
  · rw [hH]
    by_cases hd : p.1.dst = some t
    · have hl : t < σ.s.length := by rw [← slot_len (S := add S k) (D := D)]; exact (List.getElem?_eq_some_iff.1 hx).1
      rw [slot_in h hp add_eq hd hl] at hx
      injection hx with hx; subst hx
      rw [hd] at hv
      simp only [Act.put] at hv
      rw [Array.getElem?_setIfInBounds_self] at hv
      split at hv
      · injection hv with hv; subst hv; exact hu
      · cases hv
    · rw [slots_add h hp hS hd] at hx
      refine (hr.slot t x v hx ?_).later hb
      rw [← hv]
      cases hd' : p.1.dst with
      | none => rfl
      | some t' => simp only [Act.put]; rw [Array.getElem?_setIfInBounds_ne]; rintro rfl; exact hd hd'
/-- Operation k has made its object. -/
theorem step_new (h : DOk l m D) {k : Nat} {p : Oper × DR} (hp : D[k]? = some p) (hS : S k = false) {ob : AObj} (hN : p.2.N = some ob) (hr : SRel B μ (σS σ D S) a w) (hun : Un μ σ.H.length D S) (hb : Below w.heap.size w w') {u : Value} {b mb : Nat} {cur : Array Value}
    (h1 : w.heap.size ≤ b) (h2 : b < w'.heap.size) (hz : 0 < ob.sz) (hst : ob.st = 0) (hin : ObjIn (fun c => OO B.X (σS σ D S).H μ c ∨ c = b) w' μ b mb ob cur) (hu : ∀ (O' : Nat → Prop) (μ' : Mu), (∀ c, O' c → OO B.X (σS σ D S).H μ c ∨ c = b) → (∀ i l, μ i = some l → μ' i = some l) → μ' (idD σ.H.length D k) = some (some (b, mb)) → RV O' w' μ' p.2.x u) :
    ∃ μ', SRel B μ' (σS σ D (add S k)) (a.put p.1.dst u) w' ∧ Un μ' σ.H.length D (add S k) := by
  let id := idD σ.H.length D k
  let μ' : Mu := fun i => if i = id then some (some (b, mb)) else μ i
  have hid : μ id = none := hun k p ob hp hN hS
  have hmu : ∀ i l, μ i = some l → μ' i = some l := fun i l hi => by simp only [μ']; rw [if_neg (by rintro rfl; rw [hid] at hi; cases hi)]; exact hi
  have hHne : ∀ i : Nat, i ≠ id → (σS σ D (add S k)).H[i]? = (σS σ D S).H[i]? := by
    intro i hne
    cases hi : (σS σ D S).H[i]? with
    | none => rw [List.getElem?_eq_none_iff] at hi ⊢; rw [H_len] at hi ⊢; exact hi
    | some o =>
      rcases H_cases hi with ⟨hlt, h1⟩ | ⟨j, q, ob', g1, g2, g3, g4⟩
      · exact H_old i o h1
      · have hj : j ≠ k := by rintro rfl; exact hne g3
        rw [g3, idD_at g1 g2, add_ne hj, g4]
  have hHid : (σS σ D (add S k)).H[id]? = some ob := by
    have := idD_at (σ := σ) (S := add S k) hp hN
    rw [add_eq] at this; exact this
  have hidlt : id < (σS σ D S).H.length := by rw [H_len, ← H_len (S := add S k)]; exact (List.getElem?_eq_some_iff.1 hHid).1
  have hoo : ∀ c, c < w.heap.size → OO B.X (σS σ D (add S k)).H μ' c → OO B.X (σS σ D S).H μ c := by
    rintro c hc (hx | ⟨i, o, m', hi, hs, hm'⟩)
    · exact .inl hx
    · simp only [μ'] at hm'
      split at hm'
      · injection hm' with hm'; injection hm' with hm'; injection hm' with e1 e2; omega
      · rename_i hne
        rw [hHne i hne] at hi
        exact .inr ⟨i, o, m', hi, hs, hm'⟩
  have up : ∀ {ν ν' : Mu} {x : AV} {v : Value}, RV (OO B.X (σS σ D S).H μ) w ν x v → (∀ i l, ν i = some l → ν' i = some l) → RV (OO B.X (σS σ D (add S k)).H μ') w' ν' x v := fun hx hn => hx.mono hoo (fun c hc _ => hb.block c hc) _ hn
  have hoo' : ∀ c, OO B.X (σS σ D (add S k)).H μ' c → OO B.X (σS σ D S).H μ c ∨ c = b := by
    rintro c (hx | ⟨i, o, m', hi, hs, hm'⟩)
    · exact .inl (.inl hx)
    · simp only [μ'] at hm'
      split at hm'
      · injection hm' with hm'; injection hm' with hm'; injection hm' with e1 e2; exact .inr e1.symm
      · rename_i hne
        rw [hHne i hne] at hi
        exact .inl (.inr ⟨i, o, m', hi, hs, hm'⟩)
  have hext : Ext μ w μ' := fun i c m1 hi => by
    simp only [μ'] at hi
    split at hi
    · injection hi with hi; injection hi with hi; injection hi with e1 e2
      exact .inr (by omega)
    · exact .inl ⟨i, m1, hi⟩
  have hlt' : ∀ i c m1, μ' i = some (some (c, m1)) → c < w'.heap.size ∧ ¬ B.X c := fun i c m1 hi => by
    simp only [μ'] at hi
    split at hi
    · injection hi with hi; injection hi with hi; injection hi with e1 e2
      subst e1
      exact ⟨h2, fun hx => by have := hr.H.xlt _ hx; omega⟩
    · have := hr.H.lt i c m1 hi
      exact ⟨Nat.lt_of_lt_of_le this.1 hb.size, this.2⟩
  refine ⟨μ', ⟨?_, fun t x v hx hv => ?_, ⟨fun i l hi => ?_, fun i j c m1 m2 hi hj => ?_, fun i c m1 hi => ?_, fun i o hi hs => ?_, fun c hx => Nat.lt_of_lt_of_le (hr.H.xlt c hx) hb.size, hr.H.gl.step hb.size (fun b hlt _ _ => hb.block b hlt) (fun _ h => .inl h) fun i b m hi => (hext i b m hi).imp (fun h => h) .inr⟩, by have := hr.df.step (Chg.of_below hb) hext hlt'; cases hd : p.1.dst <;> exact this, hr.chg.trans hr.ext (.of_below hb), fun i c m1 hi => ?_, hr.nb, ?_, fun j x v hj hx => up (hr.pres j x v hj hx) (upto_mono hmu)⟩, fun j q ob' hq hN' hs => ?_⟩
  · rw [slot_len, ← slot_len (S := S) (D := D), hr.size]; cases p.1.dst <;> simp [Act.put]
  · by_cases hd : p.1.dst = some t
    · have hl : t < σ.s.length := by rw [← slot_len (S := add S k) (D := D)]; exact (List.getElem?_eq_some_iff.1 hx).1
      rw [slot_in h hp add_eq hd hl] at hx
      injection hx with hx; subst hx
      rw [hd] at hv
      simp only [Act.put] at hv
      rw [Array.getElem?_setIfInBounds_self] at hv
      split at hv
      · injection hv with hv; subst hv; exact hu _ _ hoo' hmu (by simp [μ', id])
      · cases hv
    · rw [slots_add h hp hS hd] at hx
      refine up (hr.slot t x v hx ?_) hmu
      rw [← hv]
      cases hd' : p.1.dst with
      | none => rfl
      | some t' => simp only [Act.put]; rw [Array.getElem?_setIfInBounds_ne]; rintro rfl; exact hd hd'
  · simp only [μ'] at hi
    rw [H_len, ← H_len (S := S)]
    split at hi
    · subst i; exact hidlt
    · exact hr.H.dom i l hi
  · simp only [μ'] at hi hj
    split at hi <;> split at hj
    · omega
    · injection hi with hi; injection hi with hi; injection hi with e1 e2
      have := (hr.H.lt j c m2 hj).1; omega
    · injection hj with hj; injection hj with hj; injection hj with e1 e2
      have := (hr.H.lt i c m1 hi).1; omega
    · exact hr.H.inj i j c m1 m2 hi hj
  · simp only [μ'] at hi
    split at hi
    · injection hi with hi; injection hi with hi; injection hi with e1 e2
      subst e1
      exact ⟨h2, fun hx => by have := hr.H.xlt _ hx; omega⟩
    · have := hr.H.lt i c m1 hi
      exact ⟨Nat.lt_of_lt_of_le this.1 hb.size, this.2⟩
  · by_cases hne : i = id
    · subst hne
      rw [hHid] at hi; injection hi with hi; subst hi
      refine ⟨hz, .inr ⟨b, mb, cur, by simp [μ'], ⟨hin.blk, hin.size, hin.le, hin.nle, hin.one, hin.flen, fun k j a v hk ha hv => ?_⟩⟩⟩
      refine (hin.cell k j a v hk ha hv).mono (fun c _ hc => hoo' c hc) (fun _ _ _ => rfl) _ fun i l hi => ?_
      split
      · rename_i hpu; rw [if_pos hpu] at hi; exact hi
      · rename_i hpu; rw [if_neg hpu] at hi; exact hmu i l hi
    · rw [hHne i hne] at hi
      exact (hr.H.obj i o hi hs).mono hoo (fun c hc _ => hb.block c hc) hmu fun c m1 hm1 => hb.block c (hr.H.lt i c m1 hm1).1
  · simp only [μ'] at hi
    split at hi
    · injection hi with hi; injection hi with hi; injection hi with e1 e2
      exact .inr (by have := hr.chg.size; omega)
    · exact hr.ext i c m1 hi
  · rw [H_len, ← H_len (S := S)]; exact hr.le
  · have hj : j ≠ k := by rintro rfl; rw [add_eq] at hs; cases hs
    rw [add_ne hj] at hs
    simp only [μ']
    rw [if_neg]
    · exact hun j q ob' hq hN' hs
    · intro he
      unfold id idD at he
      exact hj (nNews_inj D j k q p ob' ob hq hp hN' hN (by omega))
end
end Go.Proofs.YthcoccoanpmhgaaDoor
