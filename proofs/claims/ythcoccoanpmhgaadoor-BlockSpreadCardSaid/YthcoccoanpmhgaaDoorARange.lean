/- A range over a function, at the caller. -/
import Derived.Test.YthcoccoanpmhgaaDoorAIter
import Derived.RangeFuncIn
namespace Go.Proofs.YthcoccoanpmhgaaDoor
open Go.RowKit
set_option linter.unusedVariables false
set_option linter.unusedSimpArgs false
set_option linter.unusedSectionVars false
variable {P : Program} {tab : Tab} {X : Nat → Prop} {H H' : List AObj} {μ μ' : Mu} {w w' : World} {r : Option Nat} {l R : List Oper} {Q : Exit → St → Prop} {σ : St} {o : Oper}
def Base.kept (B : Base P) (k : Option (Nat × Obj)) : Base P := { B with kp := k }
theorem Ex.rekp {B : Base P} {nb : YB} {ds : List Deferred} (h : Ex B μ nb ds w) (k : Option (Nat × Obj)) (hk : ∀ D o, k = some (D, o) → w.heap[D]? = some o ∧ ¬ InMu μ D ∧ ¬ B.X D ∧ D < B.w.heap.size) : Ex (B.kept k) μ nb ds w :=
  ⟨h.sp, ⟨h.ok.keep, h.ok.yl⟩, h.jr, h.marks, h.apart, h.nm, h.xy, h.triv, hk⟩
theorem SRel.rekp {B : Base P} {a : Act} (h : SRel B μ σ a w) (k : Option (Nat × Obj)) (hk : ∀ D o, k = some (D, o) → w.heap[D]? = some o ∧ ¬ InMu μ D ∧ ¬ B.X D ∧ D < B.w.heap.size) : SRel (B.kept k) μ σ a w :=
  ⟨h.size, h.slot, h.H, h.df.rekp k hk, h.chg, h.ext, h.nb, h.le, h.pres⟩
def setPs (s : List AV) : List Tmp → List AV → List AV
  | p :: ps, x :: xs => setPs (setn s p x) ps xs
  | _, _ => s
theorem setPs_len : ∀ (ps : List Tmp) (xs s : List AV), (setPs s ps xs).length = s.length
  | [], _, _ => by simp [setPs]
  | _ :: _, [], _ => by simp [setPs]
  | p :: ps, x :: xs, s => by simp only [setPs]; rw [setPs_len ps xs]; simp [setn_eq]
theorem setPs_rv {O : Nat → Prop} : ∀ (ps : List Tmp) {xs s : List AV} {vs : List Value} {t : Array Value}, RVs O w μ xs vs → (∀ (k : Nat) x v, s[k]? = some x → t[k]? = some v → RV O w μ x v) → s.length = t.size →
    ((ps.zip vs).foldl (fun t p => t.setIfInBounds p.1 p.2) t).size = s.length ∧ ∀ (k : Nat) x v, (setPs s ps xs)[k]? = some x → ((ps.zip vs).foldl (fun t p => t.setIfInBounds p.1 p.2) t)[k]? = some v → RV O w μ x v
  | [], xs, s, vs, t, h, hs, hl => ⟨by simpa using hl.symm, by simpa [setPs] using hs⟩
  | p :: ps, [], s, vs, t, h, hs, hl => by
    obtain rfl := h.unnil
    exact ⟨by simpa using hl.symm, by simpa [setPs] using hs⟩
  | p :: ps, x :: xs, s, vs, t, h, hs, hl => by
    obtain ⟨v, us, rfl, g1, g2⟩ := h.uncons
    simp only [setPs, List.zip_cons_cons, List.foldl_cons]
    have := setPs_rv ps (s := setn s p x) (t := t.setIfInBounds p v) g2 (fun k y u hy hu => by
      simp only [setn_eq] at hy
      rw [Array.getElem?_setIfInBounds] at hu
      by_cases he : p = k
      · subst he
        rw [if_pos rfl] at hu
        split at hu
        · rename_i hlt
          injection hu with hu; subst hu
          rw [List.getElem?_set_self (by rw [hl]; exact hlt)] at hy
          injection hy with hy; subst hy
          exact g1
        · cases hu
      · rw [if_neg he] at hu
        rw [List.getElem?_set_ne he] at hy
        exact hs k y u hy hu) (by simp [setn_eq, hl])
    exact ⟨by rw [this.1]; simp [setn_eq], this.2⟩
/-- Others have changed what is theirs. -/
theorem SRel.foreign {B : Base P} {O O' : Nat → Prop} {a : Act} (h : SRel (B.at_ fun b => B.X b ∨ O b) μ σ a w) (hsp : B.sp = none) (hs : Same O w w') (hO' : ∀ k, O' k → (O k ∨ w.heap.size ≤ k) ∧ ¬ InMu μ k ∧ k < w'.heap.size) (hOw : ∀ b, O b → B.w.heap.size ≤ b) (hw : B.w.heap.size ≤ w.heap.size) :
    SRel (B.at_ fun b => B.X b ∨ O' b) μ σ a w' := by
  have hoo : ∀ b, b < w.heap.size → OO (fun b => B.X b ∨ O' b) σ.H μ b → OO (fun b => B.X b ∨ O b) σ.H μ b := fun b hb hx => hx.imp (fun h => h.imp id fun h => (hO' b h).1.elim id fun h => by omega) id
  have hnx : ∀ b, b < w.heap.size → ¬ OO (fun b => B.X b ∨ O b) σ.H μ b → w'.heap[b]? = w.heap[b]? := fun b hb hn => hs.block b hb fun h => hn (.inl (.inr h))
  have hblk : ∀ {b m i}, μ i = some (some (b, m)) → w'.heap[b]? = w.heap[b]? := fun {b m i} hi => hs.block b (h.H.lt i b m hi).1 fun hx => (h.H.lt i b m hi).2 (.inr hx)
  refine ⟨h.size, fun t x v hx hv => (h.slot t x v hx hv).mono hoo hnx _ fun _ _ h => h, ⟨h.H.dom, h.H.inj, fun i b m hi => ⟨Nat.lt_of_lt_of_le (h.H.lt i b m hi).1 hs.size, fun hx => hx.elim (fun hx => (h.H.lt i b m hi).2 (.inl hx)) fun hx => (hO' b hx).2.1 ⟨i, m, hi⟩⟩, fun i o hi hst => (h.H.obj i o hi hst).mono hoo hnx (fun _ _ h => h) fun b m hb => hblk hb, fun b hx => hx.elim (fun hx => Nat.lt_of_lt_of_le (h.H.xlt b (.inl hx)) hs.size) fun hx => (hO' b hx).2.2, h.H.gl.step hs.size (fun b hb hn _ => hs.block b hb fun hx => hn (.inr hx)) (fun b hb => hb.elim (fun h => .inl (.inl h)) fun h => (hO' b h).1.elim (fun h => .inl (.inr h)) fun h => .inr (.inr h)) fun i b m hi => .inl ⟨i, m, hi⟩⟩,
    ⟨h.df.sp, ⟨h.df.ok.keep, h.df.ok.yl⟩, h.df.triv hsp _ _ _ _ _, fun d hd => ?_, h.df.apart, h.df.nm, fun hne => (hne hsp).elim, h.df.triv, fun D o ho => ?_⟩, ⟨hs.os.trans h.chg.os, hs.tape.trans h.chg.tape, hs.output.trans h.chg.output, Nat.le_trans h.chg.size hs.size, fun k hk hn hy => (hs.block k (Nat.lt_of_lt_of_le hk hw) fun hx => by have := hOw k hx; have h2 : k < B.w.heap.size := hk; omega).trans (h.chg.block k hk hn hy)⟩, h.ext, h.nb, h.le,
    fun k x v hk hx => (h.pres k x v hk (hx.mono (fun b hb hb' => hb'.imp (fun h => h.elim .inl fun h => by have := hOw b h; have h2 : b < B.w.heap.size := hb; omega) id) (fun _ _ _ => rfl) _ fun _ _ h => h)).mono hoo hnx _ fun _ _ h => h⟩
  · obtain ⟨D, e1, e2, e3, e4, e5⟩ := h.df.marks d hd
    have hlt := (Array.getElem?_eq_some_iff.1 e2).1
    exact ⟨D, e1, (hs.block D hlt fun hx => e4 (.inr hx)).trans e2, e3, fun hx => hx.elim (fun hx => e4 (.inl hx)) fun hx => (hO' D hx).1.elim (fun h => e4 (.inr h)) fun h => by omega, e5⟩
  · obtain ⟨e1, e2, e3, e4⟩ := h.df.kp D o ho
    have hlt := (Array.getElem?_eq_some_iff.1 e1).1
    exact ⟨(hs.block D hlt fun hx => e3 (.inr hx)).trans e1, e2, fun hx => hx.elim (fun hx => e3 (.inl hx)) fun hx => (hO' D hx).1.elim (fun h => e3 (.inr h)) fun h => by omega, e4⟩
/-- Behind a round: what the caller's slots read as, and its objects. -/
theorem SRel.after {B : Base P} {s : List AV} {fg : List Nat} {nb : YB} {a : Act} {w3 : World} {μ4 : Mu} {σ4 : St} {a4 : Act} {L : Nat} {k : Option (Nat × Obj)} {X4 : Nat → Prop} (h : SRel B μ ⟨s, H, fg, nb⟩ a w) (hsp : B.sp = none) (hL : B.w.heap.size ≤ L) (hml : ∀ d ∈ a.defers, d.target ≠ .collected L)
    (h4 : SRel (Base.at_ (⟨w, B.X, μ, H, fun b => b = L, none, fun _ _ _ _ _ => True, k⟩ : Base P) X4) μ4 σ4 a4 w3) (hg : Grows (⟨w, B.X, μ, H, fun b => b = L, none, fun _ _ _ _ _ => True, k⟩ : Base P) X4) (hs : LeS (s.map (fgs (fgk H.length σ4.fg))) s) (hfg : (σ4.fg.all fun i => Nat.ble nb.n i) = true) :
    SRel B μ4 ⟨s, σ4.H, fg, nb⟩ a w3 := by
  have hoo : ∀ b, OO B.X σ4.H μ4 b → OO X4 σ4.H μ4 b := fun b hb => hb.imp (hg.le b) id
  have dn : ∀ {ν : Mu} {x : AV} {v : Value}, RV (OO X4 σ4.H μ4) w3 ν x v → RV (OO B.X σ4.H μ4) w3 ν x v := fun {ν x v} hx => hx.mono (fun b _ hb => hoo b hb) (fun _ _ _ => rfl) ν fun _ _ h => h
  have hp : ∀ k x v, k ≤ H.length → RV (OO B.X H μ) w (upto k μ) x v → RV (OO X4 σ4.H μ4) w3 (upto k μ4) (fgs (fgk k σ4.fg) x) v := fun k x v hk hx => h4.pres k x v (by rw [h4.nb]; exact hk) (hx.mono (fun b hb hb' => hb'.imp (fun hx => (hg.new b hx).elim id fun h => by have h2 : w.heap.size ≤ b := h; omega) id) (fun _ _ _ => rfl) _ fun _ _ h => h)
  have hnl : nb.n ≤ H.length := h.le
  have h4le : H.length ≤ σ4.H.length := by have := h4.le; rw [h4.nb] at this; exact this
  have hin : ∀ b, InMu μ4 b → InMu μ b ∨ w.heap.size ≤ b := fun b ⟨i, m, hi⟩ => (h4.ext i b m hi).imp (fun ⟨j, m', hj⟩ => ⟨j, m', hj⟩) id
  have hchg : ∀ k, k < w.heap.size → ¬ InMu μ k → k ≠ L → w3.heap[k]? = w.heap[k]? := fun k hk hn hne => h4.chg.block k hk (fun i m hi => hn ⟨i, m, hi⟩) hne
  refine ⟨h.size, fun t x v hx hv => ?_, ⟨h4.H.dom, h4.H.inj, fun i b m hi => ⟨(h4.H.lt i b m hi).1, fun hx => (h4.H.lt i b m hi).2 (hg.le b hx)⟩, fun i o hi hst => (h4.H.obj i o hi hst).mono (fun b _ hb => hoo b hb) (fun _ _ _ => rfl) (fun _ _ h => h) fun _ _ _ => rfl, fun b hx => h4.H.xlt b (hg.le b hx), h4.H.gl.step (Nat.le_refl _) (fun _ _ _ _ => rfl) (fun b hb => .inl (hg.le b hb)) fun i b m hi => .inl ⟨i, m, hi⟩⟩,
    ⟨h.df.sp, h.df.ok, h.df.triv hsp _ _ _ _ _, fun d hd => ?_, h.df.apart, h.df.nm, fun hne => (hne hsp).elim, h.df.triv, fun D o ho => ?_⟩,
    ⟨h4.chg.os.trans h.chg.os, h4.chg.tape.trans h.chg.tape, h4.chg.output.trans h.chg.output, Nat.le_trans h.chg.size h4.chg.size, fun k hk hn hy => ?_⟩, h.ext.trans h.chg.size h4.ext, h.nb, Nat.le_trans hnl h4le, fun k x v hk hx => ?_⟩
  · have hx0 := h.slot t x v hx hv
    have h1 := hp H.length x v (Nat.le_refl _) (by rw [upto_all h.H.dom]; exact hx0)
    obtain ⟨y, hy, hle⟩ := hs.at_ hx
    simp only [List.getElem?_map, hx, Option.map_some, Option.some.injEq] at hy
    subst hy
    exact (dn (hle _ _ _ _ h1)).mono (fun _ _ h => h) (fun _ _ _ => rfl) _ (upto_le _ _)
  · obtain ⟨D, e1, e2, e3, e4, e5⟩ := h.df.marks d hd
    have hlt := (Array.getElem?_eq_some_iff.1 e2).1
    exact ⟨D, e1, (hchg D hlt e3 (by rintro rfl; exact hml d hd (by rw [e1]))).trans e2, fun hD => (hin D hD).elim e3 fun h => by omega, e4, e5⟩
  · obtain ⟨e1, e2, e3, e4⟩ := h.df.kp D o ho
    have hlt := (Array.getElem?_eq_some_iff.1 e1).1
    exact ⟨(hchg D hlt e2 (by rintro rfl; omega)).trans e1, fun hD => (hin D hD).elim e2 fun h => by omega, e3, e4⟩
  · refine (hchg k (Nat.lt_of_lt_of_le hk h.chg.size) (fun ⟨i, m, hi⟩ => ?_) (by rintro rfl; omega)).trans (h.chg.block k hk hn hy)
    rcases h.ext i k m hi with ⟨j, m', hj⟩ | hge
    · exact hn j m' hj
    · omega
  · have h1 := hp k _ v (Nat.le_trans hk hnl) (h.pres k x v hk hx)
    have : fgk k σ4.fg = [] := by
      unfold fgk
      rw [List.filter_eq_nil_iff]
      intro i hi hb
      rw [Nat.blt_eq] at hb
      have := Nat.ble_eq.mp (List.all_eq_true.1 hfg i hi)
      have h2 : k ≤ nb.n := hk
      omega
    rw [this] at h1
    exact dn h1
/-- How a round's body is left. -/
def RoundP (s : List AV) (k0 k : Nat) (H' : List AObj) : Exit → St → Prop
  | .normal, σ' => ∃ σ'', Tells σ' σ'' ∧ σ''.H = H' ∧ LeS (s.map (fgs (fgk k σ''.fg))) s ∧ (σ''.fg.all fun i => Nat.ble k0 i) = true
  | _, _ => False
theorem aw_range {g : Operand} {ps : List Tmp} {assign body : Code} (hsp : σ.nb.sp = none) (hlive : live σ.H = true) {gf : FuncId} {lb : List AV} (hg : σ.ev g = .fn (.func gf) [] lb) (hgf : GoFn P gf) (hlb : lb.all (idfree 4) = true)
    {xs : Nat → List AV} {n : Nat} (hit : AIter P gf lb xs n) (hps : ∀ i, i < n → (xs i).length = ps.length) (Hs : Nat → List AObj) (h0 : Hs 0 = σ.H)
    (round : ∀ i, i < n → ∀ L, AW P (some L) assign (Then (AW P (some L) body (RoundP σ.s σ.nb.n (Hs i).length (Hs (i + 1)))) (fun _ _ => False)) ⟨setPs σ.s ps (xs i), Hs i, [], ⟨(Hs i).length, 0, false, none, true⟩⟩)
    (next : Q .normal ⟨σ.s, Hs n, σ.fg, ⟨σ.nb.n, σ.nb.y, σ.nb.stop, σ.nb.sp, false⟩⟩) : AW P none (.rangeFunc g ps.toArray assign body) Q σ := by
  intro B μ a w hr
  obtain ⟨fn, c, hfn, hnm, hb⟩ := hgf
  have hspB : B.sp = none := by rw [← hr.df.sp]; exact hsp
  have htriv := hr.df.triv hspB
  refine wpIn_rangeFunc fun fi _ => ?_
  obtain ⟨rec, hrec⟩ : ∃ rec : LoopState → Option Code → Loop, rec = fun st pe => { state := st, pending := pe, fn := fi, tmps := a.tmps, params := ps.toArray, assign, body, defers := w.heap.size } := ⟨_, rfl⟩
  obtain ⟨l, hl⟩ : ∃ l, l = w.heap.size + 1 := ⟨_, rfl⟩
  obtain ⟨W1, hW1⟩ : ∃ W1, (w.alloc (.deferred (some []))).alloc (.loop (rec .ready none)) = W1 := ⟨_, rfl⟩
  have hs1 : W1.heap.size = w.heap.size + 2 := by rw [← hW1]; simp
  have hL1 : W1.heap[l]? = some (.loop (rec .ready none)) := by
    rw [← hW1, hl]; have := World.alloc_heap_new (w.alloc (.deferred (some []))) (.loop (rec .ready none)); rwa [World.size_alloc] at this
  have hK1 : W1.heap[w.heap.size]? = some (.deferred (some [])) := by
    rw [← hW1]; exact (Below.heap_alloc _ _ _ (by simp)).trans (World.alloc_heap_new w _)
  have hbel : Below w.heap.size w W1 := by
    rw [← hW1]; exact ((Below.refl _ w).alloc (Nat.le_refl _) _).alloc (by simp) _
  have hgv := hr.ev g
  rw [hg] at hgv
  generalize hge : a.eval g = gv at hgv
  cases hgv with
  | fn h1 h2 h3 h4 =>
    rename_i vs us
    obtain rfl : vs = [] := by simpa using h1.symm
    let mark : Deferred := { target := .collected w.heap.size, args := #[] }
    refine ⟨l, [mark], W1, { target := .fn (.func gf) us.toArray, args := #[.func (.yield l) #[] #[]] }, W1, gf, (Value.func (.yield l) #[] #[] :: us).toArray, W1, ?_, ?_, fun _ _ => trivial, ?_, fun h => by simp [fw, Fence.wide] at h, ?_⟩
    · rw [← hW1, hrec, hl]; exact run_enterLoop_outer _ _ _ _ _
    · simp only [resolve, hge]
      simp [go_sem]
    · simp [invoke, go_sem, run_enter hfn hnm hb]
    obtain ⟨aD, haD⟩ : ∃ aD : Act, aD = { tmps := a.tmps, defers := mark :: a.defers } := ⟨_, rfl⟩
    obtain ⟨nbM, hnbM⟩ : ∃ nbM : YB, nbM = ⟨σ.nb.n, σ.nb.y, σ.nb.stop, σ.nb.sp, false⟩ := ⟨_, rfl⟩
    have hsz := hr.chg.size
    have hnin : ∀ b, InMu μ b → b < w.heap.size := fun b ⟨i, m, hi⟩ => (hr.H.lt i b m hi).1
    have hfun : (fun b => B.X b ∨ False) = B.X := by funext b; simp
    have hdl : ∀ d ∈ aD.defers, d.target ≠ .collected l := fun d hd => by
      rw [haD] at hd
      rcases List.mem_cons.1 hd with rfl | hd
      · intro h; injection h with h; omega
      · obtain ⟨D, e1, e2, _⟩ := hr.df.marks d hd
        have := (Array.getElem?_eq_some_iff.1 e2).1
        rw [e1]
        intro h; injection h with h; omega
    -- the caller, with the loop's blocks laid
    have hr1 : SRel (B.at_ fun b => B.X b ∨ False) μ ⟨σ.s, Hs 0, σ.fg, nbM⟩ aD W1 := by
      rw [hfun, h0, hnbM, haD]
      refine ⟨hr.size, fun t x v hx hv => (hr.slot t x v hx hv).later hbel, hr.H.below hbel, ⟨hr.df.sp, ⟨hr.df.ok.keep, hr.df.ok.yl⟩, htriv _ _ _ _ _, fun d hd => ?_, ?_, fun h => (by cases h), fun hne => (hne hspB).elim, hr.df.triv, fun D o ho => ?_⟩, hr.chg.trans hr.ext (.of_below hbel), hr.ext, hr.nb, hr.le, fun k x v hk hx => (hr.pres k x v hk hx).later hbel⟩
      · rcases List.mem_cons.1 hd with rfl | hd
        · exact ⟨_, rfl, hK1, fun h => by have := hnin _ h; omega, fun h => by have := hr.H.xlt _ h; omega, hsz⟩
        · obtain ⟨D, e1, e2, e3, e4, e5⟩ := hr.df.marks d hd
          exact ⟨D, e1, (hbel.block D (Array.getElem?_eq_some_iff.1 e2).1).trans e2, e3, e4, e5⟩
      · refine List.pairwise_cons.2 ⟨fun d hd he => ?_, hr.df.apart⟩
        obtain ⟨D, e1, e2, e3, e4, e5⟩ := hr.df.marks d hd
        have hlt := (Array.getElem?_eq_some_iff.1 e2).1
        rw [e1] at he
        injection he with he
        injection he with he
        omega
      · obtain ⟨e1, e2, e3, e4⟩ := hr.df.kp D o ho
        exact ⟨(hbel.block D (Array.getElem?_eq_some_iff.1 e1).1).trans e1, e2, e3, e4⟩
    let J : Nat → Bool → (Nat → Prop) → (Nat → Prop) → World → Prop := fun y t Z O W => t = false ∧ (∀ b, O b → W1.heap.size ≤ b) ∧ W1.heap.size ≤ W.heap.size ∧ (∀ b, B.X b → Z b) ∧ Z l ∧ (∀ b, Z b → b < W.heap.size) ∧ ∃ μc, (∀ b, InMu μc b → Z b) ∧ ¬ InMu μc l ∧ SRel (B.at_ fun b => B.X b ∨ O b) μc ⟨σ.s, Hs y, σ.fg, nbM⟩ aD W ∧ W.heap[l]? = some (.loop (rec .ready none))
    have hok : Base.Ok (⟨W1, fun b => B.X b ∨ InMu μ b ∨ b = l, noMu, [], fun b => B.X b ∨ InMu μ b ∨ b = l, some (l, xs, n), J, none⟩ : Base P) := by
      refine ⟨?_, ?_⟩
      · rintro y t Z O W W' O' ⟨j1, j2, j3, j4, j5, j6, μc, j7, j8, j9, j10⟩ hs hO'
        have hll : ¬ O l := fun h => by have := j2 l h; omega
        refine ⟨j1, fun b hb => (hO' b hb).1.elim (j2 b) fun h => by omega, Nat.le_trans j3 hs.size, j4, j5, fun b hb => Nat.lt_of_lt_of_le (j6 b hb) hs.size, μc, j7, j8, j9.foreign hspB hs (fun k hk => ⟨(hO' k hk).1, fun h => (hO' k hk).2.1 (j7 k h), (hO' k hk).2.2⟩) (fun b hb => by have := j2 b hb; omega) (by omega), (hs.block l (j6 l j5) hll).trans j10⟩
      · rintro l' xs' n' he y Z O W vs ⟨j1, j2, j3, j4, j5, j6, μc, j7, j8, j9, j10⟩ hy hv r'
        injection he with he; injection he with e1 e2; injection e2 with e2 e3
        subst e1 e2 e3
        have hvl : vs.length = ps.length := by rw [← hv.1]; exact hps y hy
        have hyl := run_yield (P := P) (args := vs.toArray) j10 (by rw [hrec]; simpa using hvl)
        rw [hrec] at hyl
        refine ⟨fi, _, assign, body, hyl, roundIn_of_wpIn trivial ?_⟩
        have hlO : ¬ O l := fun h => by have := j2 l h; omega
        have hlX : ¬ B.X l := fun h => by have := hr.H.xlt l h; omega
        let Br : Base P := ⟨W, fun b => B.X b ∨ O b, μc, Hs y, fun b => b = l, none, fun _ _ _ _ _ => True, some (l, .loop (rec .ready none))⟩
        have hkeep : ∀ (k : Option (Nat × Obj)) (X1 : Nat → Prop), Base.Ok (⟨W, X1, μc, Hs y, fun b => b = l, none, fun _ _ _ _ _ => True, k⟩ : Base P) := fun _ _ => ⟨fun _ _ _ _ _ _ _ _ _ _ => trivial, fun _ _ _ h => by cases h⟩
        have hargs : RVs (OO (fun b => B.X b ∨ O b) (Hs y) μc) W μc (xs y) vs := hv.mono (fun b _ hb => by
          rcases hb with (h | h) | ⟨i, o, m, _, _, hm⟩
          · exact .inl (j4 b h)
          · exact .inr h
          · exact .inl (j7 b ⟨i, m, hm⟩)) (fun _ _ _ => rfl) fun i l h => by cases h
        have hset := setPs_rv ps hargs (fun k x v hx hv => j9.slot k x v hx (by rw [haD]; exact hv)) hr.size
        have hzip : (ps.toArray.zip vs.toArray).foldl (fun tmps x => tmps.setIfInBounds x.1 x.2) a.tmps = (ps.zip vs).foldl (fun t p => t.setIfInBounds p.1 p.2) a.tmps := by simp
        have hr0 : SRel Br μc ⟨setPs σ.s ps (xs y), Hs y, [], ⟨(Hs y).length, 0, false, none, true⟩⟩ { tmps := (ps.zip vs).foldl (fun t p => t.setIfInBounds p.1 p.2) a.tmps, defers := [] } W :=
          ⟨by rw [setPs_len]; exact hset.1.symm, hset.2, j9.H, ⟨rfl, hkeep _ _, trivial, fun d hd => (by cases hd), .nil, fun _ => rfl, fun h => (h rfl).elim, fun _ _ _ _ _ _ => trivial, fun D o ho => (by
            injection ho with ho; injection ho with e1 e2; subst e1 e2
            exact ⟨j10, j8, fun h => h.elim hlX hlO, (Array.getElem?_eq_some_iff.1 j10).1⟩)⟩, ⟨rfl, rfl, rfl, Nat.le_refl _, fun _ _ _ _ => rfl⟩, Ext.refl _ _, rfl, Nat.le_refl _, fun k x v _ hx => hx⟩
        have hA := round y hy l Br μc _ W hr0
        rw [← hzip] at hA
        refine wpIn_mono hA fun e a1 w1 ⟨σ1, q1, μ1, X1, hg1, hr2⟩ => ?_
        cases e <;> simp only [Then] at q1
        simp only [Exit.then]
        obtain ⟨t1, d1⟩ := a1
        obtain ⟨c1, c2, c3, c4⟩ := hr2.df.kp l _ rfl
        refine ⟨_, run_beginRound c1 (by rw [hrec]), ?_⟩
        have hr3 := (hr2.rekp none fun D o h => by cases h)
        have hr3 := hr3.obj (o' := .loop { rec .ready none with state := .busy }) (ds' := d1) c1 rfl c2 (.inr rfl) ⟨hr3.df.sp, hr3.df.ok, trivial, fun d hd => (by
            obtain ⟨D, e1, e2, e3, e4, e5⟩ := hr3.df.marks d hd
            exact ⟨D, e1, (World.putObj_heap_other (by rintro rfl; rw [c1] at e2; cases e2)).trans e2, e3, e4, e5⟩), hr3.df.apart, hr3.df.nm, hr3.df.xy, hr3.df.triv, fun D o h => by cases h⟩
        have hr3 := hr3.rekp (some (l, .loop { rec .ready none with state := .busy })) fun D o h => by
          injection h with h; injection h with e1 e2; subst e1 e2
          exact ⟨World.putObj_heap_same (Array.getElem?_eq_some_iff.1 c1).1, c2, c3, c4⟩
        refine wpIn_mono (q1 _ μ1 _ _ hr3) fun e a3 w3 ⟨σ3, q3, μ3, X3, hg3, hr4⟩ => ?_
        cases e <;> simp only [RoundP] at q3
        obtain ⟨σ4, ht, hH4, hs4, hfg4⟩ := q3
        obtain ⟨μ4, hr5⟩ := ht P _ μ3 a3 w3 hr4
        obtain ⟨d1, d2, d3, d4⟩ := hr5.df.kp l _ rfl
        have hr6 : SRel (B.at_ fun b => B.X b ∨ O b) μ4 ⟨σ.s, σ4.H, σ.fg, nbM⟩ aD w3 := j9.after (L := l) hspB (by show B.w.heap.size ≤ l; omega) hdl (k := some (l, .loop { rec .ready none with state := .busy })) (X4 := X3) hr5 ⟨fun b hb => hg3.le b (hg1.le b hb), fun b hb => (hg3.new b hb).elim (fun h => hg1.new b h) .inr⟩ hs4 (by rw [hnbM]; exact hfg4)
        refine ⟨_, _, run_endRound none d1, true, fun b => Z b ∨ InMu μ4 b, rfl, ⟨rfl, j2, by have h5 := hr5.chg.size; have h6 : W.heap.size ≤ w3.heap.size := h5; simp; omega, fun b hb => .inl (j4 b hb), .inl j5, fun b hb => ?_, μ4, fun b h => .inr h, d2, ?_, ?_⟩, fun b hb => .inl hb, fun b hb => ?_, ?_⟩
        · have h6 : W.heap.size ≤ w3.heap.size := hr5.chg.size
          simp only [World.putObj_size]
          rcases hb with hb | ⟨i, m, hi⟩
          · have := j6 b hb; omega
          · exact (hr5.H.lt i b m hi).1
        · rw [haD] at hr6 hdl ⊢
          rw [← hH4]
          refine hr6.obj d1 rfl d2 (.inl (by show B.w.heap.size ≤ l; omega)) ⟨hr6.df.sp, hr6.df.ok, htriv _ _ _ _ _, fun d hd => ?_, hr6.df.apart, hr6.df.nm, hr6.df.xy, hr6.df.triv, fun D o ho => ?_⟩
          · obtain ⟨D, e1, e2, e3, e4, e5⟩ := hr6.df.marks d hd
            exact ⟨D, e1, (World.putObj_heap_other (by rintro rfl; exact hdl d hd (by rw [e1]))).trans e2, e3, e4, e5⟩
          · obtain ⟨e1, e2, e3, e4⟩ := hr6.df.kp D o ho
            have e4 : D < B.w.heap.size := e4
            exact ⟨(World.putObj_heap_other (by rintro rfl; omega)).trans e1, e2, e3, e4⟩
        · rw [World.putObj_heap_same (Array.getElem?_eq_some_iff.1 d1).1, hrec]; rfl
        · have h6 : W.heap.size ≤ w3.heap.size := hr5.chg.size
          simp only [World.putObj_size]
          rcases hb with hb | ⟨i, m, hi⟩
          · exact ⟨.inl hb, by have := j6 b hb; omega⟩
          · refine ⟨?_, (hr5.H.lt i b m hi).1⟩
            rcases hr5.ext i b m hi with ⟨j, m', hj⟩ | h
            · exact .inl (j7 b ⟨j, m', hj⟩)
            · exact .inr h
        · have h6 : W.heap.size ≤ w3.heap.size := hr5.chg.size
          refine ⟨hr5.chg.os, hr5.chg.tape, hr5.chg.output, by simpa using h6, fun k hk hz => ?_⟩
          have hkl : k ≠ l := by rintro rfl; exact hz j5
          exact (World.putObj_heap_other hkl).trans (hr5.chg.block k hk (fun i m hi => hz (j7 k ⟨i, m, hi⟩)) hkl)
    have hargs : RVs (fun b => B.X b ∨ InMu μ b ∨ b = l) W1 noMu lb us := ⟨h3, fun j x v hx hv => by
      have h5 := idfree_rv 4 (List.all_eq_true.1 hlb x (List.mem_of_getElem? hx)) (h4 j x v hx hv)
      refine h5.mono (fun b hb hb' => ?_) (fun b hb _ => hbel.block b hb) _ fun _ _ h => h
      rcases hb' with h | h | h
      · exact .inl h
      · exact live_oo hlive hr.H h
      · omega⟩
    have hZ : ∀ b, (B.X b ∨ InMu μ b ∨ b = l) → b < W1.heap.size := fun b hb => by
      rcases hb with h | h | h
      · have := hr.H.xlt b h; omega
      · have := hnin b h; omega
      · omega
    have hcall := hit (⟨W1, fun b => B.X b ∨ InMu μ b ∨ b = l, noMu, [], fun b => B.X b ∨ InMu μ b ∨ b = l, some (l, xs, n), J, none⟩ : Base P) l us rfl rfl rfl rfl rfl hok
      ⟨rfl, fun b h => h.elim, Nat.le_refl _, fun b h => .inl h, .inr (.inr rfl), hZ, μ, fun b h => .inr (.inl h), fun h => by have := hnin _ h; omega, hr1, hL1⟩
      hZ (hr.H.gl.step (w' := W1) (show w.heap.size ≤ W1.heap.size by omega) (fun b hb _ _ => hbel.block b hb) (fun b hb => hb.elim .inl fun h => h.elim (fun ⟨i, m, h⟩ => .inr (.inl ⟨i, m, h⟩)) fun h => .inr (.inr (by omega))) fun i b m h => (by cases h)) hargs
    refine hcall.mono fun e w' he => ?_
    obtain ⟨v, y, t, X', rfl, ⟨j1, j2, j3, j4, j5, j6, μc, j7, j8, j9, j10⟩, k2, _, _, _⟩ := he
    obtain rfl := k2 j1
    refine ⟨none, _, by have := run_endLoop (P := P) j10 (by rw [hrec]; simp); rw [hrec] at this; exact this, ?_⟩
    rw [hfun] at j9
    have j9 : SRel B μc ⟨σ.s, Hs y, σ.fg, nbM⟩ aD w' := j9
    refine ⟨_, next, SRel.sx (μ := μc) ?_⟩
    rw [hnbM, haD] at j9
    rw [haD] at hdl
    have hlB : ¬ B.X l := fun h => by have := hr.H.xlt l h; omega
    refine j9.obj j10 rfl j8 (.inl (by omega)) ⟨j9.df.sp, j9.df.ok, htriv _ _ _ _ _, fun d hd => ?_, j9.df.apart, j9.df.nm, j9.df.xy, j9.df.triv, fun D o ho => ?_⟩
    · obtain ⟨D, e1, e2, e3, e4, e5⟩ := j9.df.marks d hd
      exact ⟨D, e1, (World.putObj_heap_other (by rintro rfl; exact hdl d hd (by rw [e1]))).trans e2, e3, e4, e5⟩
    · obtain ⟨e1, e2, e3, e4⟩ := j9.df.kp D o ho
      exact ⟨(World.putObj_heap_other (by rintro rfl; omega)).trans e1, e2, e3, e4⟩
end Go.Proofs.YthcoccoanpmhgaaDoor
