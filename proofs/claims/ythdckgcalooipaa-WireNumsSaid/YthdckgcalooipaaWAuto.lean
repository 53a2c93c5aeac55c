/- Many steps of a walk at once: the tactics stand in the defaults of arguments. -/
import Derived.Test.YthdckgcalooipaaWTab
import Derived.Test.YthdckgcalooipaaAMore
namespace Go.Proofs.Ythdckgcalooipaa
open Go.RowKit
attribute [local irreducible] IterP RoundP ADr AL AW Then InBlock RetP Tells APure ACall
set_option linter.unusedVariables false
theorem hmix : Try.prog.follows .mixedOrders = true := by kernel_rfl
theorem blt0 (n : Nat) : Nat.blt n 0 = false := by cases n <;> rfl
/-- What is left to do. -/
structure Hold (G : Prop) : Prop where
  out : G
/-- As many steps as go. -/
theorem go {G A : Prop} (k : Hold G) (h : Hold G → A := by
  intro k
  try simp only [lst, junkL, setsL, setn]
  first | (conv => arg 8; simp only [St.put, St.behind, blt0, St.ev, setn, nth, Option.getD, Int.reduceToNat, Int.toNat_natCast, List.getD_cons_zero, beq_self_eq_true, bne_self_eq_false, Bool.not_true, Bool.not_false, Int.cast_ofNat_Int, cond_true, cond_false, str_toList, str_append, octets_fU8, List.map, forget, fgs, ren, sh, renObj, share, List.any_nil, List.any_cons, List.nil_append, List.cons_append, List.append_nil, List.length_nil, List.length_cons, Nat.reduceAdd]) | (conv => arg 6; simp only [St.put, St.behind, blt0, St.ev, setn, nth, Option.getD, Int.reduceToNat, Int.toNat_natCast, List.getD_cons_zero, beq_self_eq_true, bne_self_eq_false, Bool.not_true, Bool.not_false, Int.cast_ofNat_Int, cond_true, cond_false, str_toList, str_append, octets_fU8, List.map, forget, fgs, ren, sh, renObj, share, List.any_nil, List.any_cons, List.nil_append, List.cons_append, List.append_nil, List.length_nil, List.length_cons, Nat.reduceAdd]) | (conv => arg 5; simp only [St.put, St.behind, blt0, St.ev, setn, nth, Option.getD, Int.reduceToNat, Int.toNat_natCast, List.getD_cons_zero, beq_self_eq_true, bne_self_eq_false, Bool.not_true, Bool.not_false, Int.cast_ofNat_Int, cond_true, cond_false, str_toList, str_append, octets_fU8, List.map, forget, fgs, ren, sh, renObj, share, List.any_nil, List.any_cons, List.nil_append, List.cons_append, List.append_nil, List.length_nil, List.length_cons, Nat.reduceAdd]) | skip
  repeat (first
    | with_reducible refine aw_seq ?_ | with_reducible refine aw_region ?_ | with_reducible refine aw_ret ?_ | with_reducible refine aw_skip ?_ | with_reducible refine then_norm ?_ | with_reducible refine then_ret ?_ | with_reducible refine inb_ret ?_ | with_reducible refine aw_block ?_ | with_reducible refine aw_exit ?_ | with_reducible refine then_exit ?_ | with_reducible refine inb_norm ?_ | with_reducible refine al_nil ?_ | with_reducible refine ad_endall ?_
    | ((with_reducible refine inb_exit_ ?_); first | refine inb_exit rfl ?_ | refine inb_other rfl ?_)
    | ((with_reducible refine aw_cond_ ?_); first | refine aw_cond_t rfl ?_ | refine aw_cond_f rfl ?_)
    | ((with_reducible refine al_cons_ ?_); first
      | (refine al_pure hT rfl rfl (by first | exact True.intro | exact Nat.le_refl _ | rfl | decide | omega | exact isOctets_fU8 _ _ | exact isOctets_cut _ _ _ | (refine Int.le_trans (b := 9000000000000000000) ?_ (by decide); simp only [str_size, List.length_append, List.length_nil]; omega) | (simp only [IntKind.wrap_i64, IntKind.wrap_u64]; omega) | (simp only [cutOk, cutLen, and_true, Int.toNat_natCast, List.length_cons, List.length_append, List.length_nil, List.length_take, IntKind.wrap_i64]; omega)) ?_; conv => arg 6; try simp only [St.put, St.behind, blt0, St.ev, setn, nth, Option.getD, Int.reduceToNat, Int.toNat_natCast, List.getD_cons_zero, beq_self_eq_true, bne_self_eq_false, Bool.not_true, Bool.not_false, Int.cast_ofNat_Int, cond_true, cond_false, str_toList, str_append, octets_fU8])
      | (refine al_skip rfl ?_; conv => arg 6; try simp only [St.put, setn, nth])
      | (refine al_new hT rfl rfl (by first | exact True.intro | omega) ?_; conv => arg 6; try simp only [St.put, St.behind, blt0, St.ev, setn, nth, Option.getD, Int.reduceToNat, Int.toNat_natCast, List.getD_cons_zero, beq_self_eq_true, bne_self_eq_false, Bool.not_true, Bool.not_false, Int.cast_ofNat_Int, cond_true, cond_false, str_toList, str_append, octets_fU8, List.nil_append, List.cons_append, List.append_nil, List.length_nil, List.length_cons, Nat.reduceAdd]))
    | ((with_reducible refine ad_cons_ ?_); first
      | (refine ad_pure hT rfl rfl (by first | exact True.intro | exact Nat.le_refl _ | rfl | decide | omega | exact isOctets_fU8 _ _ | exact isOctets_cut _ _ _ | (refine Int.le_trans (b := 9000000000000000000) ?_ (by decide); simp only [str_size, List.length_append, List.length_nil]; omega) | (simp only [IntKind.wrap_i64, IntKind.wrap_u64]; omega) | (simp only [cutOk, cutLen, and_true, Int.toNat_natCast, List.length_cons, List.length_append, List.length_nil, List.length_take, IntKind.wrap_i64]; omega)) ?_; conv => arg 8; try simp only [St.put, St.behind, blt0, St.ev, setn, nth, Option.getD, Int.reduceToNat, Int.toNat_natCast, List.getD_cons_zero, beq_self_eq_true, bne_self_eq_false, Bool.not_true, Bool.not_false, Int.cast_ofNat_Int, cond_true, cond_false, str_toList, str_append, octets_fU8])
      | (refine ad_skip rfl ?_; conv => arg 8; try simp only [St.put, setn, nth])
      | (refine ad_new hT rfl rfl (by first | exact True.intro | omega) ?_; conv => arg 8; try simp only [St.put, St.behind, blt0, St.ev, setn, nth, Option.getD, Int.reduceToNat, Int.toNat_natCast, List.getD_cons_zero, beq_self_eq_true, bne_self_eq_false, Bool.not_true, Bool.not_false, Int.cast_ofNat_Int, cond_true, cond_false, str_toList, str_append, octets_fU8, List.nil_append, List.cons_append, List.append_nil, List.length_nil, List.length_cons, Nat.reduceAdd]))
    | (with_reducible refine aw_drawall hmix rfl (by kernel_rfl) (by kernel_rfl) ?_)
    | ((with_reducible refine aw_cond_ ?_); first | refine aw_ift rfl (by omega) ?_ | refine aw_iff rfl (by omega) ?_)
    | ((with_reducible refine al_cons_ ?_); first | refine al_ift rfl rfl (by omega) ?_ | refine al_iff rfl rfl (by omega) ?_; conv => arg 6; simp only [setn])
    | ((with_reducible refine ad_cons_ ?_); first | refine ad_ift rfl rfl (by omega) ?_ | refine ad_iff rfl rfl (by omega) ?_; conv => arg 8; simp only [setn]))
  exact k.1) : A := h k
/-- A state in plain words. -/
theorem nz {G A : Prop} (k : Hold G) (h : Hold G → A := by
  intro k
  first
    | (conv => arg 6; simp only [St.put, St.behind, blt0, St.ev, setn, nth, Option.getD, Int.reduceToNat, Int.toNat_natCast, List.getD_cons_zero, beq_self_eq_true, bne_self_eq_false, Bool.not_true, Bool.not_false, Int.cast_ofNat_Int, cond_true, cond_false, str_toList, str_append, octets_fU8, List.map, forget, fgs, ren, sh, idx, renObj, share, List.any_nil, List.any_cons, List.nil_append, List.cons_append, List.append_nil, List.length_nil, List.length_cons, Nat.reduceAdd])
    | (conv => arg 8; simp only [St.put, St.behind, blt0, St.ev, setn, nth, Option.getD, Int.reduceToNat, Int.toNat_natCast, List.getD_cons_zero, beq_self_eq_true, bne_self_eq_false, Bool.not_true, Bool.not_false, Int.cast_ofNat_Int, cond_true, cond_false, str_toList, str_append, octets_fU8, List.map, forget, fgs, ren, sh, idx, renObj, share, List.any_nil, List.any_cons, List.nil_append, List.cons_append, List.append_nil, List.length_nil, List.length_cons, Nat.reduceAdd])
  exact k.1) : A := h k
/-- Slot by slot. -/
theorem les {A : Prop} (h : A := by
  repeat (first
    | exact .nil
    | refine .cons (.junk _) ?_
    | refine .cons (.refl _) ?_
    | refine .cons (AV.Le.nil rfl rfl) ?_
    | refine .cons (leU8 _) ?_
    | refine .cons (leCutB (by first | rfl | (simp; done) | fail) (by simp only [cutHi]; omega) (fun h => by first | exact h | cases h) (by first | (simp only [cutHi, cutLo]; simp; done) | (simp only [cutHi, cutLo]; (repeat rw [List.take_of_length_le (by simp <;> omega)]); simp; done) | fail)) ?_
    | refine .cons (.int (by first | rfl | assumption | omega | (simp only [IntKind.wrap_i64, IntKind.wrap_u64]; omega) | (simp; done) | (simp; omega))) ?_
    | refine .cons (.row (by first | rfl | omega | (simp; done) | (simp; omega))) ?_
    | refine .cons (.sl (by first | rfl | omega | (simp; done) | (simp; omega)) (fun h => by first | exact h | cases h) (fun k hk => by first | rfl | (exact (Nat.not_lt_zero _ hk).elim) | (simp [cutF, fE, fU8, eU8, fI64, eI64, List.getD_eq_getElem?_getD]; done) | fail)) ?_
    | refine .cons (.eq (by first | rfl | assumption | (simp; done) | fail)) ?_)
  first | done | fail) : A := h
/-- A call of a function that keeps to itself. -/
theorem cal {G A C D : Prop} (g : D) (c : C) (k : Hold G) (h : D → C → Hold G → A := by
  intro g c k
  first
    | (refine al_pcl rfl rfl rfl g rfl (by repeat' (first | exact trivial | exact Nat.le_refl _ | exact Nat.le_of_eq (Nat.zero_add _) | refine And.intro ?_ ?_ | omega)) c (by exact les) ?_
       conv => arg 6; try simp only [St.put, St.behind, blt0, St.ev, setn, nth, Option.getD, Int.reduceToNat, Int.toNat_natCast, List.getD_cons_zero, beq_self_eq_true, bne_self_eq_false, Bool.not_true, Bool.not_false, Int.cast_ofNat_Int, cond_true, cond_false, str_toList, str_append, octets_fU8, List.map, forget, fgs, ren, sh, renObj, share, List.any_nil, List.any_cons, List.nil_append, List.cons_append, List.append_nil, List.length_nil, List.length_cons, Nat.reduceAdd])
    | (refine ad_pcl rfl rfl rfl g rfl c (by exact les) rfl (by repeat' (first | exact trivial | exact Nat.le_refl _ | exact Nat.le_of_eq (Nat.zero_add _) | refine And.intro ?_ ?_ | omega)) ?_
       conv => arg 8; try simp only [St.put, St.behind, blt0, St.ev, setn, nth, Option.getD, Int.reduceToNat, Int.toNat_natCast, List.getD_cons_zero, beq_self_eq_true, bne_self_eq_false, Bool.not_true, Bool.not_false, Int.cast_ofNat_Int, cond_true, cond_false, str_toList, str_append, octets_fU8])
  exact k.1) : A := h g c k
/-- Object by object. -/
theorem leh {A : Prop} (h : A := by
  repeat (first
    | exact .nil
    | refine .cons (.of (by first | rfl | omega | (simp; done) | (simp; omega) | (simp [*]; done) | (simp [*]; omega)) (fun h => h) fun k hk => by first | rfl | (exact (Nat.not_lt_zero _ hk).elim) | (simp; done) | (simp [*]; done) | fail) ?_)
  first | done | fail) : A := h
/-- A state, told otherwise. -/
theorem tel {A : Prop} (h : A := by
  try simp only [lst, junkL, setsL, setn]
  first
    | exact Tells.refl _
    | (refine Tells.le ?_ ?_; exact les; exact leh)
    | (refine (Tells.sel [] rfl rfl).trans (Tells.le ?_ ?_); exact les; exact leh)
    | (refine (Tells.sel [0] rfl rfl).trans (Tells.le ?_ ?_); exact les; exact leh)
    | (refine (Tells.sel [0, 1] rfl rfl).trans (Tells.le ?_ ?_); exact les; exact leh)
    | (refine (Tells.sel [1] rfl rfl).trans (Tells.le ?_ ?_); exact les; exact leh)) : A := h
/-- A loop. -/
theorem lp {P : Program} {r : Option Nat} {Q : Exit → St → Prop} {c : Code} {ι : Type} {s : List AV} {H0 : List AObj} {fg : List Nat} {nb : YB} {ws : List Nat} (g : ι → List (Nat × AV)) (Hs : ι → List AObj) (m : ι → Nat) (i0 : ι)
    (round : ∀ i, AW P r c (Then (fun σ' => ∃ j, m j < m i ∧ Tells σ' (lst s fg nb ws (g j) (Hs j))) Q) (lst s fg nb ws (g i) (Hs i)))
    (hws : wrC c = ws := by (conv => lhs; simp only [wrC, dstsL, List.cons_append, List.nil_append, List.append_nil]) <;> exact rfl)
    (h0 : Tells ⟨s, H0, fg, nb⟩ (lst s fg nb ws (g i0) (Hs i0)) := by exact tel) : AW P r (.loop c) Q ⟨s, H0, fg, nb⟩ := aw_loopA hws g Hs m i0 h0 round
/-- Where branches meet: what is known of the slots that they write. -/
theorem jn {P : Program} {r : Option Nat} {Q Q' : Exit → St → Prop} {x y : Code} {s : List AV} {H0 : List AObj} {fg : List Nat} {nb : YB} {ws : List Nat} (g : List (Nat × AV)) (H1 : List AObj)
    (h1 : AW P r x (Then (fun σ' => Tells σ' (lst s fg nb ws g H1)) Q') ⟨s, H0, fg, nb⟩) (h2 : AW P r y Q (lst s fg nb ws g H1))
    (hws : wrC x = ws := by (conv => lhs; simp only [wrC, dstsL, List.cons_append, List.nil_append, List.append_nil]) <;> exact rfl) : AW P r x (Then (AW P r y Q) Q') ⟨s, H0, fg, nb⟩ := aw_joinw hws g H1 h1 h2
theorem je {n : St → Prop} {Q : Exit → St → Prop} {σ : St} (h : n σ) : Then n Q .normal σ := round_end h
/-- append. -/
theorem app {P : Program} {tab : Tab} {r : Option Nat} {l R : List Oper} {Q : Exit → St → Prop} {σ : St} {o : Oper} {q : Prop} {y : AV} {H' : List AObj} {id : Nat} {ob : AObj} {t : TypeId} {sx xx : Operand} (f' : Nat → List AV) (hT : TabOk P tab) (hw : wantA l σ o = some true) (ho : o.op = .call { callee := .builtin .append, args := #[sx, xx], argTypes := #[t, t] })
    (h : aAppend tab σ.H t (σ.ev sx) (σ.ev xx) = some (q, y, H', some id)) (hob : nth H' id = some ob) (hf : ∀ k, k < ob.n → f' k = ob.f k)
    (next : AL P r l Q R ((σ.behind (setn H' id { ob with f := f' }) (some id)).put o.dst y)) (hq : q := by first | (simp; omega) | (simp [*]; omega) | (simp; done) | (refine ⟨?_, ?_, ?_, ?_⟩ <;> first | exact trivial | exact Nat.le_refl _ | (simp [*]; omega) | omega)) : AL P r l Q (o :: R) σ := al_app f' hT hw ho h hob hq hf next
/-- The answer is what is said of it. -/
theorem fin {A : Prop} (h : A := by
  first | refine ret1 rfl trivial ?_ | refine rett rfl trivial rfl ?_
  first
    | exact Tells.refl _
    | (refine Tells.le ?_ ?_; exact les; exact leh)
    | (refine Tells.all rfl ?_; exact les)
    | (refine (Tells.sel [0] rfl rfl).trans (Tells.le ?_ ?_); exact les; exact leh)
    | (refine (Tells.sel [1] rfl rfl).trans (Tells.le ?_ ?_); exact les; exact leh)
    | (refine (Tells.sel [2] rfl rfl).trans (Tells.le ?_ ?_); exact les; exact leh)
    | (refine (Tells.sel [3] rfl rfl).trans (Tells.le ?_ ?_); exact les; exact leh)
    | (refine (Tells.sel [4] rfl rfl).trans (Tells.le ?_ ?_); exact les; exact leh)
    | (refine (Tells.sel [5] rfl rfl).trans (Tells.le ?_ ?_); exact les; exact leh)
    | (refine (Tells.sel [6] rfl rfl).trans (Tells.le ?_ ?_); exact les; exact leh)) : A := h
/-- A function without loops and calls, to its end. -/
theorem auto {A : Prop} (h : A := by
  try (conv => arg 5; simp only [lst, junkL, setsL, setn, St.put, St.behind, blt0, St.ev, nth, Option.getD, Int.reduceToNat, Int.toNat_natCast, List.getD_cons_zero, beq_self_eq_true, bne_self_eq_false, Bool.not_true, Bool.not_false, Int.cast_ofNat_Int, cond_true, cond_false, str_toList, str_append, octets_fU8])
  repeat' (first
    | with_reducible refine aw_seq ?_ | with_reducible refine aw_region ?_ | with_reducible refine aw_ret ?_ | with_reducible refine aw_skip ?_ | with_reducible refine then_norm ?_ | with_reducible refine then_ret ?_ | with_reducible refine inb_ret ?_ | with_reducible refine aw_block ?_ | with_reducible refine aw_exit ?_ | with_reducible refine then_exit ?_ | with_reducible refine inb_norm ?_ | with_reducible refine al_nil ?_ | with_reducible refine ad_endall ?_
    | ((with_reducible refine inb_exit_ ?_); first | refine inb_exit rfl ?_ | refine inb_other rfl ?_)
    | ((with_reducible refine aw_cond_ ?_); first | refine aw_cond_t rfl ?_ | refine aw_cond_f rfl ?_)
    | ((with_reducible refine al_cons_ ?_); first
      | (refine al_pure hT rfl rfl (by first | exact True.intro | exact Nat.le_refl _ | rfl | decide | omega | exact isOctets_fU8 _ _ | exact isOctets_cut _ _ _ | (refine Int.le_trans (b := 9000000000000000000) ?_ (by decide); simp only [str_size, List.length_append, List.length_nil]; omega) | (simp only [IntKind.wrap_i64, IntKind.wrap_u64]; omega) | (simp only [cutOk, cutLen, and_true, Int.toNat_natCast, List.length_cons, List.length_append, List.length_nil, List.length_take, IntKind.wrap_i64]; omega)) ?_; conv => arg 6; try simp only [St.put, St.behind, blt0, St.ev, setn, nth, Option.getD, Int.reduceToNat, Int.toNat_natCast, List.getD_cons_zero, beq_self_eq_true, bne_self_eq_false, Bool.not_true, Bool.not_false, Int.cast_ofNat_Int, cond_true, cond_false, str_toList, str_append, octets_fU8])
      | (refine al_skip rfl ?_; conv => arg 6; try simp only [St.put, setn, nth])
      | (refine al_new hT rfl rfl (by first | exact True.intro | omega) ?_; conv => arg 6; try simp only [St.put, St.behind, blt0, St.ev, setn, nth, Option.getD, Int.reduceToNat, Int.toNat_natCast, List.getD_cons_zero, beq_self_eq_true, bne_self_eq_false, Bool.not_true, Bool.not_false, Int.cast_ofNat_Int, cond_true, cond_false, str_toList, str_append, octets_fU8, List.nil_append, List.cons_append, List.append_nil, List.length_nil, List.length_cons, Nat.reduceAdd]))
    | ((with_reducible refine ad_cons_ ?_); first
      | (refine ad_pure hT rfl rfl (by first | exact True.intro | exact Nat.le_refl _ | rfl | decide | omega | exact isOctets_fU8 _ _ | exact isOctets_cut _ _ _ | (refine Int.le_trans (b := 9000000000000000000) ?_ (by decide); simp only [str_size, List.length_append, List.length_nil]; omega) | (simp only [IntKind.wrap_i64, IntKind.wrap_u64]; omega) | (simp only [cutOk, cutLen, and_true, Int.toNat_natCast, List.length_cons, List.length_append, List.length_nil, List.length_take, IntKind.wrap_i64]; omega)) ?_; conv => arg 8; try simp only [St.put, St.behind, blt0, St.ev, setn, nth, Option.getD, Int.reduceToNat, Int.toNat_natCast, List.getD_cons_zero, beq_self_eq_true, bne_self_eq_false, Bool.not_true, Bool.not_false, Int.cast_ofNat_Int, cond_true, cond_false, str_toList, str_append, octets_fU8])
      | (refine ad_skip rfl ?_; conv => arg 8; try simp only [St.put, setn, nth])
      | (refine ad_new hT rfl rfl (by first | exact True.intro | omega) ?_; conv => arg 8; try simp only [St.put, St.behind, blt0, St.ev, setn, nth, Option.getD, Int.reduceToNat, Int.toNat_natCast, List.getD_cons_zero, beq_self_eq_true, bne_self_eq_false, Bool.not_true, Bool.not_false, Int.cast_ofNat_Int, cond_true, cond_false, str_toList, str_append, octets_fU8, List.nil_append, List.cons_append, List.append_nil, List.length_nil, List.length_cons, Nat.reduceAdd]))
    | (with_reducible refine aw_drawall hmix rfl (by kernel_rfl) (by kernel_rfl) ?_)
    | (refine al_if rfl rfl (fun h => ?_) (fun h => ?_) <;> conv => arg 6; simp only [setn])
    | (refine ad_if rfl rfl (fun h => ?_) (fun h => ?_) <;> conv => arg 8; simp only [setn])
    | refine aw_if rfl (fun h => ?_) (fun h => ?_))
  all_goals first
    | (exfalso; omega)
    | exact fin
    | (refine je ?_; exact tel)
    | (first | refine ret1 rfl trivial ?_ | refine rett rfl trivial rfl ?_
       refine Tells.le ?_ .nil
       repeat (first
         | exact .nil
         | refine .cons (.refl _) ?_
         | refine .cons (AV.Le.nil rfl rfl) ?_
         | refine .cons (.int (by (repeat' split) <;> omega)) ?_
         | refine .cons (.eq (by simp; try omega)) ?_))) : A := h
end Go.Proofs.Ythdckgcalooipaa
