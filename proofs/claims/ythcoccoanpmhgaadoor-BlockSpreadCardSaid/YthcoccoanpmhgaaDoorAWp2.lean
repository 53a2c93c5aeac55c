/- The walk, without memory: code, loops, what a function answers, restating a state. -/
import Derived.Test.YthcoccoanpmhgaaDoorAWp
namespace Go.Proofs.YthcoccoanpmhgaaDoor
open Go.RowKit
set_option linter.unusedVariables false
set_option linter.unusedSimpArgs false
set_option linter.unusedSectionVars false
variable {P : Program} {tab : Tab} {r : Option Nat} {Q : Exit → St → Prop} {σ : St}

theorem AW.mono {c : Code} {Q' : Exit → St → Prop} (h : AW P r c Q σ) (hq : ∀ e σ, Q e σ → Q' e σ) : AW P r c Q' σ := fun B μ a w hr =>
  wpIn_mono (h B μ a w hr) fun e a w ⟨σ', h1, h2⟩ => ⟨σ', hq _ _ h1, h2⟩
theorem aw_skip (h : Q .normal σ) : AW P r .skip Q σ := fun B μ a w hr => wpIn_skip ⟨σ, h, hr.sx⟩
theorem aw_label {l : Nat} (h : Q .normal σ) : AW P r (.label l) Q σ := fun B μ a w hr => wpIn_label ⟨σ, h, hr.sx⟩
theorem aw_exit {id : Nat} (h : Q (.exit id) σ) : AW P r (.exit id) Q σ := fun B μ a w hr => wpIn_exit ⟨σ, h, hr.sx⟩
theorem aw_ret (h : Q .ret σ) : AW P r .ret Q σ := fun B μ a w hr => wpIn_ret ⟨σ, h, hr.sx⟩
def Then (next : St → Prop) (Q : Exit → St → Prop) : Exit → St → Prop
  | .normal, σ => next σ
  | e, σ => Q e σ
theorem aw_seq {x y : Code} (h : AW P r x (Then (AW P r y Q) Q) σ) : AW P r (.seq x y) Q σ := fun B μ a w hr =>
  wpIn_seq (wpIn_mono (h B μ a w hr) fun e a' w' ⟨σ', h1, h2⟩ => by
    cases e <;> simp only [Then] at h1 <;> simp only [Exit.then] <;> first | exact (let ⟨μ', X', hg, h3⟩ := h2; wpIn_mono (h1 (B.at_ X') μ' a' w' h3) fun _ _ _ h => h.trans hg) | exact ⟨σ', h1, h2⟩)
theorem aw_cond {c : Operand} {x y : Code} {b : Bool} (hc : σ.ev c = .lit (.bool b)) (ht : b = true → AW P r x Q σ) (hf : b = false → AW P r y Q σ) : AW P r (.cond c x y) Q σ := fun B μ a w hr => by
  have h := hr.ev c
  rw [hc] at h
  exact wpIn_cond_split h.lit_eq (fun hb => ht hb B μ a w hr) (fun hb => hf hb B μ a w hr)
def InBlock (id : Nat) (Q : Exit → St → Prop) : Exit → St → Prop
  | .exit id', σ => match Nat.beq id' id with | true => Q .normal σ | false => Q (.exit id') σ
  | e, σ => Q e σ
theorem aw_block {id : Nat} {c : Code} (h : AW P r c (InBlock id Q) σ) : AW P r (.block id c) Q σ := fun B μ a w hr =>
  wpIn_block (wpIn_mono (h B μ a w hr) fun e a' w' ⟨σ', h1, h2⟩ => by
    cases e <;> simp only [InBlock] at h1 <;> simp only [Exit.inBlock] <;> first | exact ⟨σ', h1, h2⟩ | skip
    rename_i id'
    split at h1
    · rename_i hb; rw [if_pos (beq_t hb)]; exact ⟨σ', h1, h2⟩
    · rename_i hb
      rw [if_neg (fun he => by subst he; simp at hb)]; exact ⟨σ', h1, h2⟩)
theorem aw_region {id : Nat} {l : List Oper} (h : AL P r l Q l σ) : AW P r (.region id l.toArray false) Q σ := fun B μ a w hr => wpIn_region_lit (h B μ a w hr)
/-! a state, told otherwise -/
/-- What reads as the one reads as the other. -/
def AV.Le (x y : AV) : Prop := ∀ (O : Nat → Prop) (w : World) (μ : Mu) (v : Value), RV O w μ x v → RV O w μ y v
theorem AV.Le.refl (x : AV) : AV.Le x x := fun _ _ _ _ h => h
theorem AV.Le.junk (x : AV) : AV.Le x .junk := fun _ _ _ v _ => .junk v
theorem AV.Le.lit {x y : Value} (h : x = y) : AV.Le (.lit x) (.lit y) := by rw [h]; exact .refl _
theorem AV.Le.int {k : IntKind} {x y : Int} (h : x = y) : AV.Le (.lit (.int k x)) (.lit (.int k y)) := by rw [h]; exact .refl _
theorem AV.Le.eq {x y : AV} (h : x = y) : AV.Le x y := by rw [h]; exact .refl _
theorem AV.Le.sl {sz n n' : Nat} {t t' : Bool} {f g : Nat → List AV} (hn : n = n') (ht : t' = true → t = true) (h : ∀ k, k < n → g k = f k) : AV.Le (.sl sz n t f) (.sl sz n' t' g) := by
  subst hn
  intro O w μ v hv
  cases hv with
  | sl a0 a1 a2 a3 a4 a5 a6 a7 a8 => exact .sl a0 a1 a2 (fun hh => a3 (ht hh)) a4 (fun k hk => by rw [h k hk]; exact a5 k hk) (fun k j a v hk ha hv => a6 k j a v hk (by rw [← h k hk]; exact ha) hv) a7 a8
theorem AV.Le.row {i sz off n n' : Nat} {cap : Option Nat} (hn : n = n') : AV.Le (.row i sz off n cap) (.row i sz off n' cap) := by rw [hn]; exact .refl _
theorem AV.Le.rowcap {i sz off n n' : Nat} {cap : Option Nat} (hn : n = n') : True := trivial
/-- Slot by slot. -/
inductive LeS : List AV → List AV → Prop
  | nil : LeS [] []
  | cons {x y : AV} {xs ys : List AV} (h : AV.Le x y) (hs : LeS xs ys) : LeS (x :: xs) (y :: ys)
theorem LeS.refl : ∀ l : List AV, LeS l l
  | [] => .nil
  | _ :: l => .cons (.refl _) (LeS.refl l)
theorem LeS.len {xs ys : List AV} (h : LeS xs ys) : xs.length = ys.length := by induction h with | nil => rfl | cons _ _ ih => simp [ih]
theorem LeS.at_ {xs ys : List AV} (h : LeS xs ys) : ∀ {t : Nat} {y : AV}, ys[t]? = some y → ∃ x, xs[t]? = some x ∧ AV.Le x y := by
  induction h with
  | nil => intro t y h; simp at h
  | cons h hs ih =>
    intro t y hy
    cases t with
    | zero => simp at hy; subst hy; exact ⟨_, rfl, h⟩
    | succ t => simp at hy; simpa using ih hy
/-- An object, told otherwise: its elements are as before, or nothing is known of it any more; it may be shared from now on. -/
structure ObjLe (o o' : AObj) : Prop where
  st : o.st ≤ o'.st
  T : o'.st < 2 → o.T = o'.T
  sz : o'.st < 2 → o.sz = o'.sz
  n : o'.st < 2 → o'.n ≤ o.n
  pure : o'.st < 2 → o'.pure = true → o.pure = true
  f : o'.st < 2 → ∀ k, k < o'.n → o'.f k = o.f k ∨ (o'.f k).length = (o.f k).length ∧ ∀ (j : Nat) x y, (o.f k)[j]? = some x → (o'.f k)[j]? = some y → AV.Le x y
theorem ObjLe.refl (o : AObj) : ObjLe o o := ⟨Nat.le_refl _, fun _ => rfl, fun _ => rfl, fun _ => Nat.le_refl _, fun _ h => h, fun _ _ _ => .inl rfl⟩
inductive LeH : List AObj → List AObj → Prop
  | nil : LeH [] []
  | cons {x y : AObj} {xs ys : List AObj} (h : ObjLe x y) (hs : LeH xs ys) : LeH (x :: xs) (y :: ys)
theorem LeH.refl : ∀ l : List AObj, LeH l l
  | [] => .nil
  | _ :: l => .cons (.refl _) (LeH.refl l)
theorem LeH.len {xs ys : List AObj} (h : LeH xs ys) : xs.length = ys.length := by induction h with | nil => rfl | cons _ _ ih => simp [ih]
theorem LeH.at_ {xs ys : List AObj} (h : LeH xs ys) : ∀ {t : Nat} {y : AObj}, ys[t]? = some y → ∃ x, xs[t]? = some x ∧ ObjLe x y := by
  induction h with
  | nil => intro t y h; simp at h
  | cons h hs ih =>
    intro t y hy
    cases t with
    | zero => simp at hy; subst hy; exact ⟨_, rfl, h⟩
    | succ t => simp at hy; simpa using ih hy
structure LeSt (σ σ' : St) : Prop where
  s : LeS σ.s σ'.s
  H : LeH σ.H σ'.H
  fg : ∀ id, id ∈ σ.fg → id ∈ σ'.fg
theorem OO_le {X : Nat → Prop} {H H' : List AObj} {μ : Mu} (h : LeH H H') : ∀ b, OO X H' μ b → OO X H μ b := by
  rintro b (hx | ⟨i, o', m, hi, hs, hm⟩)
  · exact .inl hx
  · obtain ⟨o, ho, hle⟩ := h.at_ hi
    exact .inr ⟨i, o, m, ho, by have := hle.st; omega, hm⟩
theorem SRel.told {B : Base P} {μ : Mu} {σ' : St} {a : Act} {w : World} (h : SRel B μ σ a w) (hs : LeS σ.s σ'.s) (hH : LeH σ.H σ'.H) (hf : σ'.fg = σ.fg ∧ σ'.nb = σ.nb) : SRel B μ σ' a w := by
  have hoo := OO_le (X := B.X) (μ := μ) hH
  have up : ∀ {μ₁ : Mu} {x : AV} {v : Value}, RV (OO B.X σ.H μ) w μ₁ x v → RV (OO B.X σ'.H μ) w μ₁ x v := fun h => h.mono (fun b _ hb => hoo b hb) (fun _ _ _ => rfl) _ fun _ _ h => h
  refine ⟨by rw [← hs.len]; exact h.size, fun t x v hx hv => ?_, ⟨fun i l hi => by rw [← hH.len]; exact h.H.dom i l hi, h.H.inj, h.H.lt, fun i o' hi hs' => ?_, h.H.xlt, h.H.gl⟩, by rw [hf.2]; exact h.df, h.chg, h.ext, by rw [hf.2]; exact h.nb, by rw [hf.2, ← hH.len]; exact h.le, fun k x v hk hx => by rw [hf.1]; rw [hf.2] at hk; exact up (h.pres k x v hk hx)⟩
  · obtain ⟨y, hy, hle⟩ := hs.at_ hx
    exact up (hle _ _ _ _ (h.slot t y v hy hv))
  · obtain ⟨o, ho, hle⟩ := hH.at_ hi
    obtain ⟨hz, hob⟩ := h.H.obj i o ho (by have := hle.st; omega)
    refine ⟨by rw [← hle.sz hs']; exact hz, ?_⟩
    rcases hob with ⟨h1, h2⟩ | ⟨b, m, cur, h1, h2⟩
    · exact .inl ⟨h1, by have := hle.n hs'; omega⟩
    · have hn := hle.n hs'
      have e1 := hle.sz hs'
      refine .inr ⟨b, m, cur, h1, ⟨by rw [← hle.T hs']; exact h2.blk, by rw [← e1]; exact h2.size, h2.le, by have := h2.nle; omega, fun k j v hk hj hv => h2.one k j v (by omega) (by omega) (by rw [e1]; exact hv), fun k hk => ?_, fun k j a v hk ha hv => ?_⟩⟩
      · have := h2.flen k (by omega)
        rcases hle.f hs' k hk with he | ⟨he, _⟩
        · rw [he, ← e1]; exact this
        · rw [he, ← e1]; exact this
      · rw [← e1] at hv
        have fin : ∀ y, (o.f k)[j]? = some y → AV.Le y a → RV (OO B.X σ'.H μ) w (if o'.pure then noMu else μ) a v := by
          intro y hy hya
          have hr := hya _ _ _ _ (h2.cell k j y v (by omega) hy hv)
          cases hp : o'.pure with
          | true => rw [hle.pure hs' hp] at hr; exact up hr
          | false =>
            cases hp2 : o.pure with
            | true => rw [hp2] at hr; exact (up hr).up
            | false => rw [hp2] at hr; exact up hr
        rcases hle.f hs' k hk with he | ⟨he, hle2⟩
        · exact fin a (by rw [← he]; exact ha) (.refl _)
        · have hlt : j < (o.f k).length := by rw [← he]; exact (List.getElem?_eq_some_iff.1 ha).1
          exact fin _ (List.getElem?_eq_getElem hlt) (hle2 j _ a (List.getElem?_eq_getElem hlt) ha)
theorem aw_le {c : Code} {σ' : St} (hs : LeS σ.s σ'.s) (hH : LeH σ.H σ'.H) (hf : σ'.fg = σ.fg ∧ σ'.nb = σ.nb) (h : AW P r c Q σ') : AW P r c Q σ := fun B μ a w hr => h B μ a w (hr.told hs hH hf)
theorem al_le {l R : List Oper} {σ' : St} (hs : LeS σ.s σ'.s) (hH : LeH σ.H σ'.H) (hf : σ'.fg = σ.fg ∧ σ'.nb = σ.nb) (h : AL P r l Q R σ') : AL P r l Q R σ := fun B μ a w hr => h B μ a w (hr.told hs hH hf)
/-- A state that may be told as one of these. -/
def Like (S : St → Prop) (σ : St) : Prop := ∃ σ', LeS σ.s σ'.s ∧ LeH σ.H σ'.H ∧ (σ'.fg = σ.fg ∧ σ'.nb = σ.nb) ∧ S σ'
/-- Where the walk stands may be told otherwise at its end. -/
theorem aw_like {c : Code} (h : AW P r c (fun e σ => Like (Q e) σ) σ) : AW P r c Q σ := fun B μ a w hr =>
  wpIn_mono (h B μ a w hr) fun e a' w' ⟨σ', ⟨σ'', h1, h2, h3, h4⟩, μ', X', hg, h5⟩ => ⟨σ'', h4, μ', X', hg, h5.told h1 h2 h3⟩
/-- A nil slice as an empty row of one's own. -/
def mkRow (T sz : Nat) : AObj := { T := T, sz := sz, n := 0, f := fun _ => [] }
theorem SRel.nilRow {B : Base P} {μ : Mu} {a : Act} {w : World} (h : SRel B μ σ a w) {t : Nat} (ht : nth σ.s t = some (.lit (.slice none 0 0))) (T sz : Nat) (hz : 0 < sz) :
    ∃ μ', SRel B μ' ⟨setn σ.s t (.row σ.H.length sz 0 0 none), σ.H ++ [mkRow T sz], σ.fg, σ.nb⟩ a w := by
  let μ' : Mu := fun i => if i = σ.H.length then some none else μ i
  have hmu : ∀ i l, μ i = some l → μ' i = some l := fun i l hi => by have := h.H.dom i l hi; simp only [μ']; rw [if_neg (by omega)]; exact hi
  have hoo : ∀ b, OO B.X (σ.H ++ [mkRow T sz]) μ' b → OO B.X σ.H μ b := by
    rintro b (hx | ⟨i, o', m', hi, hs, hm'⟩)
    · exact .inl hx
    · simp only [μ'] at hm'
      split at hm'
      · cases hm'
      · have := h.H.dom i _ hm'
        rw [List.getElem?_append_left this] at hi
        exact .inr ⟨i, o', m', hi, hs, hm'⟩
  have hinm : ∀ b, InMu μ' b → InMu μ b := fun b ⟨i, m, hi⟩ => by
    simp only [μ'] at hi
    split at hi
    · cases hi
    · exact ⟨i, m, hi⟩
  have hlt' : ∀ i b m, μ' i = some (some (b, m)) → b < w.heap.size ∧ ¬ B.X b := fun i b m hi => by
    obtain ⟨j, m', hj⟩ := hinm b ⟨i, m, hi⟩
    exact h.H.lt j b m' hj
  have up : ∀ {x : AV} {v : Value}, RV (OO B.X σ.H μ) w μ x v → RV (OO B.X (σ.H ++ [mkRow T sz]) μ') w μ' x v := fun h => h.mono (fun b _ hb => hoo b hb) (fun _ _ _ => rfl) _ hmu
  refine ⟨μ', by simpa [setn_eq] using h.size, fun k x v hx hv => ?_, ⟨fun i l hi => ?_, fun i j b m m2 hi hj => ?_, fun i b m hi => ?_, fun i o' hi hs => ?_, h.H.xlt, h.H.gl.sub hinm⟩, h.df.sub hinm hlt', h.chg, fun i b m hi => ?_, h.nb, by simp; have := h.le; omega, fun k x v hk hx => (h.pres k x v hk hx).mono (fun b _ hb => hoo b hb) (fun _ _ _ => rfl) _ (upto_mono hmu)⟩
  · simp only [setn_eq] at hx
    by_cases he : t = k
    · subst he
      have hlt : t < σ.s.length := by rw [h.size]; exact (Array.getElem?_eq_some_iff.1 hv).1
      rw [List.getElem?_set_self hlt] at hx
      injection hx with hx; subst hx
      rw [nth_eq] at ht
      rw [(h.slot t _ v ht hv).lit_eq]
      exact .rowNil (by simp [μ']) (.inl rfl)
    · rw [List.getElem?_set_ne he] at hx
      exact up (h.slot k x v hx hv)
  · simp only [μ'] at hi
    split at hi
    · subst i; simp
    · have := h.H.dom i l hi; simp; omega
  · simp only [μ'] at hi hj
    split at hi <;> split at hj <;> first | (cases hi; done) | (cases hj; done) | exact h.H.inj i j b m m2 hi hj
  · simp only [μ'] at hi
    split at hi
    · cases hi
    · exact h.H.lt i b m hi
  · by_cases hlt : i < σ.H.length
    · rw [List.getElem?_append_left hlt] at hi
      exact (h.H.obj i o' hi hs).mono (fun b _ hb => hoo b hb) (fun _ _ _ => rfl) hmu fun _ _ _ => rfl
    · have he : i = σ.H.length := by
        have := (List.getElem?_eq_some_iff.1 hi).1
        simp at this; omega
      subst he
      simp at hi
      subst hi
      exact ⟨hz, .inl ⟨by simp [μ'], rfl⟩⟩
  · simp only [μ'] at hi
    split at hi
    · cases hi
    · exact h.ext i b m hi
/-- A nil slice in a variable, as an empty row of one's own. -/
def cellNil (ob : AObj) (id sz : Nat) : AObj := { ob with f := fun _ => [.row id sz 0 0 none], pure := false }
theorem SRel.nilCell {B : Base P} {μ : Mu} {a : Act} {w : World} (h : SRel B μ σ a w) {i0 : Nat} {ob : AObj} (ho : σ.H[i0]? = some ob) (hn : ob.n = 1) (hf : ob.f 0 = [.lit (.slice none 0 0)]) (T sz : Nat) (hz : 0 < sz) :
    ∃ μ', SRel B μ' ⟨σ.s, σ.H.set i0 (cellNil ob σ.H.length sz) ++ [mkRow T sz], σ.fg, σ.nb⟩ a w := by
  let μ' : Mu := fun i => if i = σ.H.length then some none else μ i
  have hi0 : i0 < σ.H.length := (List.getElem?_eq_some_iff.1 ho).1
  have hmu : ∀ i l, μ i = some l → μ' i = some l := fun i l hi => by have := h.H.dom i l hi; simp only [μ']; rw [if_neg (by omega)]; exact hi
  have hobj : ∀ i o', (σ.H.set i0 (cellNil ob σ.H.length sz) ++ [mkRow T sz])[i]? = some o' → i < σ.H.length → (i = i0 ∧ o' = cellNil ob σ.H.length sz) ∨ (i ≠ i0 ∧ σ.H[i]? = some o') := fun i o' hi hlt => by
    rw [List.getElem?_append_left (by simpa using hlt)] at hi
    by_cases he : i0 = i
    · subst he
      rw [List.getElem?_set_self hlt] at hi
      injection hi with hi
      exact .inl ⟨rfl, hi.symm⟩
    · rw [List.getElem?_set_ne he] at hi
      exact .inr ⟨fun h => he h.symm, hi⟩
  have hoo : ∀ b, OO B.X (σ.H.set i0 (cellNil ob σ.H.length sz) ++ [mkRow T sz]) μ' b → OO B.X σ.H μ b := by
    rintro b (hx | ⟨i, o', m', hi, hs, hm'⟩)
    · exact .inl hx
    · simp only [μ'] at hm'
      split at hm'
      · cases hm'
      · have := h.H.dom i _ hm'
        rcases hobj i o' hi this with ⟨rfl, rfl⟩ | ⟨_, h1⟩
        · exact .inr ⟨i, ob, m', ho, hs, hm'⟩
        · exact .inr ⟨i, o', m', h1, hs, hm'⟩
  have hinm : ∀ b, InMu μ' b → InMu μ b := fun b ⟨i, m, hi⟩ => by
    simp only [μ'] at hi
    split at hi
    · cases hi
    · exact ⟨i, m, hi⟩
  have hlt' : ∀ i b m, μ' i = some (some (b, m)) → b < w.heap.size ∧ ¬ B.X b := fun i b m hi => by
    obtain ⟨j, m', hj⟩ := hinm b ⟨i, m, hi⟩
    exact h.H.lt j b m' hj
  have up : ∀ {x : AV} {v : Value}, RV (OO B.X σ.H μ) w μ x v → RV (OO B.X (σ.H.set i0 (cellNil ob σ.H.length sz) ++ [mkRow T sz]) μ') w μ' x v := fun h => h.mono (fun b _ hb => hoo b hb) (fun _ _ _ => rfl) _ hmu
  refine ⟨μ', h.size, fun k x v hx hv => up (h.slot k x v hx hv), ⟨fun i l hi => ?_, fun i j b m m2 hi hj => ?_, hlt', fun i o' hi hs => ?_, h.H.xlt, h.H.gl.sub hinm⟩, h.df.sub hinm hlt', h.chg, fun i b m hi => ?_, h.nb, by simp; have := h.le; omega, fun k x v hk hx => (h.pres k x v hk hx).mono (fun b _ hb => hoo b hb) (fun _ _ _ => rfl) _ (upto_mono hmu)⟩
  · simp only [μ'] at hi
    split at hi
    · subst i; simp
    · have := h.H.dom i l hi; simp; omega
  · simp only [μ'] at hi hj
    split at hi <;> split at hj <;> first | (cases hi; done) | (cases hj; done) | exact h.H.inj i j b m m2 hi hj
  · by_cases hlt : i < σ.H.length
    · rcases hobj i o' hi hlt with ⟨rfl, rfl⟩ | ⟨_, h1⟩
      · obtain ⟨hz0, hat⟩ := (h.H.obj i ob ho hs).mono (O' := OO B.X (σ.H.set i (cellNil ob σ.H.length sz) ++ [mkRow T sz]) μ') (w' := w) (fun b _ hb => hoo b hb) (fun _ _ _ => rfl) hmu fun _ _ _ => rfl
        refine ⟨hz0, hat.imp (fun h => h) fun ⟨b, m, cur, h1, h2⟩ => ⟨b, m, cur, h1, ⟨h2.blk, h2.size, h2.le, h2.nle, h2.one, fun k hk => ?_, fun k j a v hk ha hv => ?_⟩⟩⟩
        · have hk : k < ob.n := hk
          have e := h2.flen 0 (by omega)
          rw [hf] at e
          exact e
        · have hk : k < ob.n := hk
          obtain rfl : k = 0 := by omega
          have ha : ([AV.row σ.H.length sz 0 0 none])[j]? = some a := ha
          have hj : j = 0 := by have := (List.getElem?_eq_some_iff.1 ha).1; simp at this; exact this
          subst hj
          simp at ha
          subst ha
          have := h2.cell 0 0 (.lit (.slice none 0 0)) v (by omega) (by rw [hf]; rfl) hv
          rw [this.lit_eq]
          exact .rowNil (by simp [μ', cellNil]) (.inl rfl)
      · exact (h.H.obj i o' h1 hs).mono (fun b _ hb => hoo b hb) (fun _ _ _ => rfl) hmu fun _ _ _ => rfl
    · have he : i = σ.H.length := by
        have := (List.getElem?_eq_some_iff.1 hi).1
        simp at this; omega
      subst he
      simp at hi
      subst hi
      exact ⟨hz, .inl ⟨by simp [μ'], rfl⟩⟩
  · simp only [μ'] at hi
    split at hi
    · cases hi
    · exact h.ext i b m hi
theorem aw_nilRow {c : Code} {t : Nat} (T sz : Nat) (ht : nth σ.s t = some (.lit (.slice none 0 0))) (hz : Nat.blt 0 sz = true) (h : AW P r c Q ⟨setn σ.s t (.row σ.H.length sz 0 0 none), σ.H ++ [mkRow T sz], σ.fg, σ.nb⟩) : AW P r c Q σ := fun B μ a w hr => by
  rw [Nat.blt_eq] at hz
  obtain ⟨μ', hr'⟩ := hr.nilRow ht T sz hz
  exact h B μ' a w hr'
theorem al_nilRow {l R : List Oper} {t : Nat} (T sz : Nat) (ht : nth σ.s t = some (.lit (.slice none 0 0))) (hz : Nat.blt 0 sz = true) (h : AL P r l Q R ⟨setn σ.s t (.row σ.H.length sz 0 0 none), σ.H ++ [mkRow T sz], σ.fg, σ.nb⟩) : AL P r l Q R σ := fun B μ a w hr => by
  rw [Nat.blt_eq] at hz
  obtain ⟨μ', hr'⟩ := hr.nilRow ht T sz hz
  exact h B μ' a w hr'
/-- What stands for σ stands for σ' too. -/
def Tells (σ σ' : St) : Prop := ∀ (P : Program) (B : Base P) (μ : Mu) (a : Act) (w : World), SRel B μ σ a w → ∃ μ', SRel B μ' σ' a w
theorem Tells.refl (σ : St) : Tells σ σ := fun P B μ a w h => ⟨μ, h⟩
theorem Tells.trans {σ σ' σ'' : St} (h : Tells σ σ') (h' : Tells σ' σ'') : Tells σ σ'' := fun P B μ a w hr => by
  obtain ⟨μ1, h1⟩ := h P B μ a w hr
  exact h' P B μ1 a w h1
theorem Tells.le {s s' : List AV} {H H' : List AObj} {fg : List Nat} {nb : YB} (hs : LeS s s') (hH : LeH H H') : Tells ⟨s, H, fg, nb⟩ ⟨s', H', fg, nb⟩ := fun P B μ a w hr => ⟨μ, hr.told hs hH ⟨rfl, rfl⟩⟩
theorem Tells.eq {σ σ' : St} (h : σ = σ') : Tells σ σ' := by rw [h]; exact .refl _
theorem Tells.nilRow {t : Nat} (T sz : Nat) (ht : nth σ.s t = some (.lit (.slice none 0 0))) (hz : Nat.blt 0 sz = true) : Tells σ ⟨setn σ.s t (.row σ.H.length sz 0 0 none), σ.H ++ [mkRow T sz], σ.fg, σ.nb⟩ := fun P B μ a w hr => by
  rw [Nat.blt_eq] at hz
  exact hr.nilRow ht T sz hz
theorem Tells.nilCell (i T sz : Nat) {ob : AObj} (ho : nth σ.H i = some ob) (hn : ob.n = 1) (hf : ob.f 0 = [.lit (.slice none 0 0)]) (hz : Nat.blt 0 sz = true) : Tells σ ⟨σ.s, setn σ.H i (cellNil ob σ.H.length sz) ++ [mkRow T sz], σ.fg, σ.nb⟩ := fun P B μ a w hr => by
  rw [Nat.blt_eq] at hz
  rw [setn_eq]
  rw [nth_eq] at ho
  exact hr.nilCell ho hn hf T sz hz
theorem aw_tell {c : Code} {σ' : St} (ht : Tells σ σ') (h : AW P r c Q σ') : AW P r c Q σ := fun B μ a w hr => by
  obtain ⟨μ', hr'⟩ := ht P B μ a w hr
  exact h B μ' a w hr'
theorem al_tell {l R : List Oper} {σ' : St} (ht : Tells σ σ') (h : AL P r l Q R σ') : AL P r l Q R σ := fun B μ a w hr => by
  obtain ⟨μ', hr'⟩ := ht P B μ a w hr
  exact h B μ' a w hr'
theorem aw_then {c : Code} {Q' : Exit → St → Prop} (h : AW P r c Q' σ) (hq : ∀ e σ, Q' e σ → ∃ σ', Tells σ σ' ∧ Q e σ') : AW P r c Q σ := fun B μ a w hr =>
  wpIn_mono (h B μ a w hr) fun e a w ⟨σ1, h1, μ1, X1, hg, h2⟩ => by
    obtain ⟨σ', h3, h4⟩ := hq e σ1 h1
    obtain ⟨μ', h5⟩ := h3 P (B.at_ X1) μ1 a w h2
    exact ⟨σ', h4, μ', X1, hg, h5⟩
/-- A loop: the states at a round's head, by a number of any kind, which goes down. -/
theorem aw_loop {c : Code} {ι : Type} (st : ι → St) (m : ι → Nat) (i0 : ι) (h0 : Tells σ (st i0))
    (round : ∀ i, AW P r c (Then (fun σ' => ∃ j, m j < m i ∧ Tells σ' (st j)) Q) (st i)) : AW P r (.loop c) Q σ := by
  intro B μ a w hr
  have key : ∀ a' w', ∃ n, (∃ i, SX B (st i) a' w') → (∃ i, SX B (st i) a' w' ∧ m i = n) ∧ ∀ n', (∃ i, SX B (st i) a' w' ∧ m i = n') → n ≤ n' := by
    intro a' w'
    by_cases h : ∃ i, SX B (st i) a' w'
    · obtain ⟨i, hi⟩ := h
      have hex : ∃ n, ∃ i, SX B (st i) a' w' ∧ m i = n := ⟨m i, i, hi, rfl⟩
      have : ∀ n, (∃ i, SX B (st i) a' w' ∧ m i = n) → ∃ n0, (∃ i, SX B (st i) a' w' ∧ m i = n0) ∧ ∀ n', (∃ i, SX B (st i) a' w' ∧ m i = n') → n0 ≤ n' := by
        intro n
        induction n using Nat.strongRecOn with
        | _ n ih =>
          intro hn
          by_cases hlt : ∃ n', n' < n ∧ ∃ i, SX B (st i) a' w' ∧ m i = n'
          · obtain ⟨n', h1, h2⟩ := hlt
            exact ih n' h1 h2
          · refine ⟨n, hn, fun n' hn' => ?_⟩
            rcases Nat.lt_or_ge n' n with h1 | h1
            · exact (hlt ⟨n', h1, hn'⟩).elim
            · exact h1
      obtain ⟨n0, h1, h2⟩ := this _ hex.choose_spec
      exact ⟨n0, fun _ => ⟨h1, h2⟩⟩
    · exact ⟨0, fun h' => (h h').elim⟩
  have h0' : SX B (st i0) a w := by
    obtain ⟨μ1, h1⟩ := h0 P B μ a w hr
    exact h1.sx
  refine wpIn_loop (fun a' w' => ∃ i, SX B (st i) a' w') (fun a' w' => (key a' w').choose) ⟨i0, h0'⟩ fun a' w' hI => ?_
  obtain ⟨⟨i, ⟨μ1, X1, hg, hi⟩, hm⟩, _⟩ := (key a' w').choose_spec hI
  refine wpIn_mono (round i (B.at_ X1) μ1 a' w' hi) fun e a2 w2 ⟨σ', h1, h2⟩ => ?_
  cases e <;> simp only [Then] at h1 <;> simp only [Exit.then] <;> first | exact ⟨σ', h1, h2.trans hg⟩ | skip
  obtain ⟨j, hj, hle⟩ := h1
  obtain ⟨μ2, X2, hg2, h2⟩ := h2
  obtain ⟨μ3, hrj⟩ := hle P _ μ2 a2 w2 h2
  have hsx : SX B (st j) a2 w2 := ⟨μ3, X2, hg.trans hg2, hrj⟩
  refine ⟨⟨j, hsx⟩, ?_⟩
  have := ((key a2 w2).choose_spec ⟨j, hsx⟩).2 (m j) ⟨j, hsx, rfl⟩
  omega
end Go.Proofs.YthcoccoanpmhgaaDoor
