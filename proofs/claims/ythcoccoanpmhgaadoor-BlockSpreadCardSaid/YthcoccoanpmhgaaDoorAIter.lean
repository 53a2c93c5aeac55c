/- Ranges over functions: yields in an iterator's walk; an iterator's contract. -/
import Derived.Test.YthcoccoanpmhgaaDoorADraw4
namespace Go.Proofs.YthcoccoanpmhgaaDoor
open Go.RowKit
set_option linter.unusedVariables false
set_option linter.unusedSimpArgs false
set_option linter.unusedSectionVars false
variable {P : Program} {tab : Tab} {X : Nat → Prop} {H H' : List AObj} {μ μ' : Mu} {w w' : World} {r : Option Nat} {l R : List Oper} {Q : Exit → St → Prop} {σ : St} {o : Oper}
theorem oper_monoQ {F : Fence} {n : Nat} {o : Oper} {a : Act} {w : World} {K K' : Act → World → Prop} {Q Q' : Exit → Act → World → Prop} (hq : ∀ e a w, Q e a w → Q' e a w) (h : ∀ a w, K a w → K' a w) (hh : o.wpIn F n P a w K Q) : o.wpIn F n P a w K' Q' := by
  unfold Oper.wpIn at *
  refine ⟨hh.1, ?_⟩
  have hh := hh.2
  have hlo : LetsOut Q → LetsOut Q' := fun ⟨a, w, h⟩ => ⟨a, w, hq _ _ _ h⟩
  generalize (o.semAt F.round a.eval).run P w = r at *
  cases r with
  | ok x w' =>
    cases x <;> simp only [Oper.uponIn] at hh ⊢ <;>
      first
        | exact h _ _ hh
        | exact ⟨hh.1, CallsIn.mono hh.2 (fun e w'' he => by cases e <;> first | exact h _ _ he | exact hq _ _ _ he | exact hlo he)⟩
        | exact ⟨hh.1, RowsIn.mono hh.2 (fun _ _ he => h _ _ he)⟩
        | exact ⟨hh.1, RoundIn.mono hh.2 (fun e w'' he => by cases e <;> first | exact h _ _ he | exact hq _ _ _ he | exact hlo he)⟩
  | halt x w' => cases x <;> simp only [Oper.uponIn] at hh ⊢ <;> first | exact hh | exact hq _ _ _ hh
theorem wpListIn_mono {F : Fence} {n : Nat} {ops : Array Oper} {Q Q' : Exit → Act → World → Prop} (hq : ∀ e a w, Q e a w → Q' e a w) : ∀ {R : List Oper} {a : Act} {w : World}, wpListIn F n P ops Q R a w → wpListIn F n P ops Q' R a w
  | [], a, w, h => hq _ _ _ h
  | o :: R, a, w, h => by
    unfold wpListIn at h ⊢
    split
    · rename_i hw; rw [if_pos hw] at h; exact oper_monoQ hq (fun _ _ h => wpListIn_mono hq h) h
    · rename_i hw; rw [if_neg hw] at h; exact ⟨h.1, wpListIn_mono hq h.2⟩
def live (H : List AObj) : Bool := H.all fun o => Nat.beq o.st 0
theorem live_oo (hl : live H = true) (hH : HRel μ X H w) {b : Nat} (h : InMu μ b) : OO X H μ b := by
  obtain ⟨i, m, hi⟩ := h
  have hlt := hH.dom i _ hi
  have := List.all_eq_true.1 hl _ (List.getElem_mem hlt)
  exact .inr ⟨i, _, m, List.getElem?_eq_getElem hlt, beq_t this, hi⟩
theorem al_yield (hw : wantA l σ o = some true) {fo : Operand} {ao : List Operand} {ts : Array TypeId} (ho : o.op = .call { callee := .value fo, args := ao.toArray, argTypes := ts }) {L : Nat} (hf : σ.ev fo = .fn (.yield L) [] [])
    {xs : Nat → List AV} {n : Nat} (hsp : σ.nb.sp = some (L, xs, n)) (hst : σ.nb.stop = false) (hnm : σ.nb.nm = true) (hy : σ.nb.y < n) (hlive : live σ.H = true) (hid : (xs σ.nb.y).all (idfree 4) = true) (hle : LeS (ao.map σ.ev) (xs σ.nb.y))
    (next : ∀ t : Bool, AL P r l Q R (St.put ⟨σ.s, σ.H, σ.fg, ⟨σ.nb.n, σ.nb.y + 1, !t, σ.nb.sp, σ.nb.nm⟩⟩ o.dst (.lit (.bool t)))) : AL P r l Q (o :: R) σ := by
  intro B μ a w hr
  unfold wpListIn
  rw [if_pos (wantA_ok hw hr)]
  refine ⟨fun f _ => fw_fn r f, ?_⟩
  rw [Oper.semAt_eq _ _ _ (fun c hc => by rw [ho] at hc; cases hc)]
  have hfv := hr.ev fo
  rw [hf] at hfv
  generalize hg : a.eval fo = fv at hfv
  cases hfv with
  | fn h1 h2 h3 h4 =>
    rename_i vs us
    obtain rfl : vs = [] := by simpa using h1.symm
    obtain rfl : us = [] := by simpa using h3.symm
    have hds : a.defers = [] := hr.df.nm hnm
    have hargs : RVs (fun b => B.X b ∨ Mine μ a.defers b) w noMu (xs σ.nb.y) (ao.map a.eval) := by
      refine ⟨by rw [← hle.len]; simp, fun j x v hx hv => ?_⟩
      have hlt : j < (ao.map σ.ev).length := by rw [hle.len]; exact (List.getElem?_eq_some_iff.1 hx).1
      obtain ⟨y, hy1, hy2⟩ := hle.at_ hx
      simp only [List.getElem?_map, Option.map_eq_some_iff] at hy1 hv
      obtain ⟨p, hp, rfl⟩ := hy1
      obtain ⟨p', hp', rfl⟩ := hv
      rw [hp] at hp'; injection hp' with hp'; subst hp'
      refine (idfree_rv 4 (List.all_eq_true.1 hid x (List.mem_of_getElem? hx)) (hy2 _ _ _ _ (hr.ev p))).mono (fun b _ hb => ?_) (fun _ _ _ => rfl) _ fun _ _ h => h
      rcases hb with hb | hb | hb
      · exact .inl hb
      · exact live_oo hlive hr.H hb
      · rw [hds] at hb; cases hb
    have hspB : B.sp = some (L, xs, n) := by rw [← hr.df.sp]; exact hsp
    have hjr := hr.df.jr
    rw [hst] at hjr
    obtain ⟨fn, tmps, assign, body, hy1, hround⟩ := hr.df.ok.yl L xs n hspB _ _ _ w (ao.map a.eval) hjr hy hargs r
    have hrun : (execOp a.eval o).run P w = .ok (.round L fn tmps assign body) w := by
      rw [← hy1]
      unfold execOp
      rw [ho]
      simp [resolve, hg, Deferred.ofValue, invoke]
    rw [hrun]
    refine ⟨fun hd => by simp [fw, Fence.wide] at hd, hround.mono fun e w' ⟨t, X', he, hj, hX1, hX2, hs⟩ => ?_⟩
    subst he
    have hg : Grows B X' := ⟨hX1, fun b hb => (hX2 b hb).1.imp id fun h => Nat.le_trans hr.chg.size h⟩
    have hoo : ∀ b, b < w.heap.size → OO X' σ.H μ b → OO B.X σ.H μ b := fun b hb h => h.imp (fun h => (hX2 b h).1.elim id fun h => by omega) id
    have hnx : ∀ b, b < w.heap.size → ¬ OO B.X σ.H μ b → w'.heap[b]? = w.heap[b]? := fun b hb hn => hs.block b hb fun h => hn (.inl h)
    have hlt : ∀ i b m, μ i = some (some (b, m)) → b < w'.heap.size ∧ ¬ X' b := fun i b m hi => ⟨Nat.lt_of_lt_of_le (hr.H.lt i b m hi).1 hs.size, fun h => (hX2 b h).1.elim (hr.H.lt i b m hi).2 fun h => by have := (hr.H.lt i b m hi).1; omega⟩
    have hsr : SRel (B.at_ X') μ ⟨σ.s, σ.H, σ.fg, ⟨σ.nb.n, σ.nb.y + 1, !t, σ.nb.sp, σ.nb.nm⟩⟩ a w' := by
      refine ⟨hr.size, fun k x v hx hv => (hr.slot k x v hx hv).mono hoo hnx _ fun _ _ h => h, ⟨hr.H.dom, hr.H.inj, hlt, fun i o hi hs' => (hr.H.obj i o hi hs').mono hoo hnx (fun _ _ h => h) fun b m hb => hs.block b (hr.H.lt i b m hb).1 (hr.H.lt i b m hb).2, fun b hb => (hX2 b hb).2, hr.H.gl.step hs.size (fun b hb hn _ => hs.block b hb hn) (fun b hb => (hX2 b hb).1.imp id .inr) fun i b m hi => .inl ⟨i, m, hi⟩⟩,
        ⟨hr.df.sp, ⟨hr.df.ok.keep, hr.df.ok.yl⟩, hj, fun d hd => (by rw [hds] at hd; cases hd), hr.df.apart, hr.df.nm, fun hne k hk hlt => hr.df.xy hne k ((hX2 k hk).1.elim id fun h => by have h1 := hr.chg.size; have h2 : k < B.w.heap.size := hlt; omega) hlt, hr.df.triv, fun D o ho => (let ⟨e1, e2, e3, e4⟩ := hr.df.kp D o ho; ⟨(hs.block D (Array.getElem?_eq_some_iff.1 e1).1 e3).trans e1, e2, fun hx => (hX2 D hx).1.elim e3 fun h => by have := (Array.getElem?_eq_some_iff.1 e1).1; omega, e4⟩)⟩,
        ⟨hs.os.trans hr.chg.os, hs.tape.trans hr.chg.tape, hs.output.trans hr.chg.output, Nat.le_trans hr.chg.size hs.size, fun k hk hn hyk => (hs.block k (Nat.lt_of_lt_of_le hk hr.chg.size) fun hx => hyk (hr.df.xy (by rw [hspB]; simp) k hx hk)).trans (hr.chg.block k hk hn hyk)⟩, hr.ext, hr.nb, hr.le,
        fun k x v hk hx => (hr.pres k x v hk (hx.mono (fun b _ hb => hb.imp (hX1 b) id) (fun _ _ _ => rfl) _ fun _ _ h => h)).mono hoo hnx _ fun _ _ h => h⟩
    exact wpListIn_mono (fun _ _ _ h => h.trans hg) (next t (B.at_ X') μ _ w' (hsr.put (.lit _) o.dst))
/-- The iterator gf, with what it has captured: it yields xs 0, xs 1, .., n of them; the first no ends it. -/
def AIter (P : Program) (gf : FuncId) (lb : List AV) (xs : Nat → List AV) (n : Nat) : Prop :=
  ∀ (B : Base P) (L : Nat) (vs : List Value), B.μ = noMu → B.H = [] → B.Y = B.X → B.sp = some (L, xs, n) → B.kp = none → B.Ok → B.J 0 false B.X (fun _ => False) B.w → (∀ b, B.X b → b < B.w.heap.size) → GlobOk B.X noMu B.w → RVs B.X B.w noMu lb vs →
    CallsIn (fw none) 0 P gf (Value.func (.yield L) #[] #[] :: vs).toArray B.w fun e w' => ∃ v y t X', e = .returned v ∧ B.J y t X' (fun _ => False) w' ∧ (t = false → y = n) ∧ Grows B X' ∧ (∀ b, X' b → b < w'.heap.size) ∧ Same B.X B.w w'
theorem slots_rv {O : Nat → Prop} {args : List AV} {vs : List Value} {k k' : Nat} (hargs : RVs O w μ args vs) : ∀ (t : Nat) x v, (args ++ List.replicate k (.lit undef))[t]? = some x → (vs.toArray ++ Array.replicate k' undef)[t]? = some v → RV O w μ x v := by
  intro t x v hx hv
  by_cases hlt : t < args.length
  · rw [List.getElem?_append_left hlt] at hx
    rw [Array.getElem?_append_left (by simpa [← hargs.1] using hlt)] at hv
    exact hargs.2 t x v hx (by simpa using hv)
  · rw [List.getElem?_append_right (by omega)] at hx
    rw [Array.getElem?_append_right (by simp [← hargs.1]; omega)] at hv
    rw [List.getElem?_replicate] at hx
    rw [Array.getElem?_replicate] at hv
    split at hx
    · injection hx with hx; subst hx
      split at hv
      · injection hv with hv; subst hv; exact .lit _
      · cases hv
    · cases hx
def IterP (n : Nat) : Exit → St → Prop
  | .normal, σ | .ret, σ => σ.nb.stop = false → σ.nb.y = n
  | _, _ => False
theorem iter_of (hT : TabOk P tab) {gf : FuncId} {fn : Func} {c : Code} (hf : P.funcs[gf]? = some fn) (hb : fn.body = some c) (hres : fn.results.toList = []) {lb : List AV} {xs : Nat → List AV} {n : Nat}
    (h : ∀ L, AW P none c (IterP n) ⟨.fn (.yield L) [] [] :: lb ++ List.replicate (fn.ntmps - (lb.length + 1)) (.lit undef), [], [], ⟨0, 0, false, some (L, xs, n), true⟩⟩) : AIter P gf lb xs n := by
  intro B L vs hμ hH hY hsp hkp hok hJ hX hgl hv
  refine callsIn_of_wp_marks (F := fw none) (n := 0) hf hb trivial ?_
  have hall : RVs (OO B.X [] noMu) B.w noMu (.fn (.yield L) [] [] :: lb) (Value.func (.yield L) #[] #[] :: vs) := .cons (.fn (vs := []) (us := []) rfl (fun j a v h => by simp at h) rfl (fun j a v h => by simp at h)) ⟨hv.1, fun j a v ha hu => (hv.2 j a v ha hu).mono (fun b _ hb => hb.elim id fun ⟨i, o, m, hi, _⟩ => (by simp at hi)) (fun _ _ _ => rfl) _ fun _ _ h => h⟩
  have hr : SRel B noMu ⟨.fn (.yield L) [] [] :: lb ++ List.replicate (fn.ntmps - (lb.length + 1)) (.lit undef), [], [], ⟨0, 0, false, some (L, xs, n), true⟩⟩ { tmps := (Value.func (.yield L) #[] #[] :: vs).toArray ++ Array.replicate (fn.ntmps - (Value.func (.yield L) #[] #[] :: vs).toArray.size) undef, defers := [] } B.w := by
    refine ⟨by simp [hv.1]; omega, slots_rv hall, ⟨fun i l h => (by cases h), fun i j b m m' h => (by cases h), fun i b m h => (by cases h), fun i o h => (by simp at h), hX, hgl⟩,
      ⟨hsp.symm, hok, hok.keep _ _ _ _ B.w _ _ hJ ⟨rfl, rfl, rfl, Nat.le_refl _, fun _ _ _ => rfl⟩ fun k hk => hk.elim (fun ⟨i, m, h⟩ => (by cases h)) fun h => (by cases h), fun d hd => (by simp at hd), .nil, fun _ => rfl, fun _ k hk _ => (by rw [hY]; exact hk), fun h => (by rw [hsp] at h; cases h), fun D o h => (by rw [hkp] at h; cases h)⟩,
      ⟨rfl, rfl, rfl, Nat.le_refl _, fun _ _ _ _ => rfl⟩, by rw [hμ]; exact Ext.refl _ _, by rw [hH]; rfl, Nat.zero_le _, fun k x v hk hx => ?_⟩
    rw [hH, hμ] at hx; exact hx
  refine wpIn_mono (h L B noMu _ B.w hr) fun e a' w' ⟨σ', h1, μ', X', hg, h2⟩ => ?_
  have fin : (σ'.nb.stop = false → σ'.nb.y = n) → LeavesInM Fence.wide 0 P fn a'.tmps (fun e w' => ∃ v y t X', e = .returned v ∧ B.J y t X' (fun _ => False) w' ∧ (t = false → y = n) ∧ Grows B X' ∧ (∀ b, X' b → b < w'.heap.size) ∧ Same B.X B.w w') a'.defers .returning w' := fun hn => by
    refine leaves_marks a'.defers h2 fun w' h2 => ?_
    obtain ⟨us, g4, g5⟩ := results_run (fn := fn) hT h2 (q := True) (l := []) (by rw [hres]; rfl) trivial
    refine ⟨_, g4, _, σ'.nb.y, σ'.nb.stop, X', rfl, ?_, hn, hg, h2.H.xlt, ⟨h2.chg.os, h2.chg.tape, h2.chg.output, h2.chg.size, fun k hk hx => h2.chg.block k hk (fun i m hi => ?_) (by show ¬ B.Y k; rw [hY]; exact hx)⟩⟩
    · exact h2.df.ok.keep _ _ _ _ w' w' _ h2.df.jr ⟨rfl, rfl, rfl, Nat.le_refl _, fun _ _ _ => rfl⟩ fun k hk => hk.elim
    · have : (B.at_ X').μ = noMu := hμ
      rw [this] at hi; cases hi
  cases e <;> simp only [IterP] at h1 <;> first | exact h1.elim | exact fin h1
end Go.Proofs.YthcoccoanpmhgaaDoor
