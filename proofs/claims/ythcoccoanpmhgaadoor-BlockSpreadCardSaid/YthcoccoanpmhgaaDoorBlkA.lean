/- Layer 3's contracts, for the walk without memory. -/
import Derived.Test.YthcoccoanpmhgaaDoorBlkMix
import Derived.Test.YthcoccoanpmhgaaDoorBlkRMix
import Derived.Test.YthcoccoanpmhgaaDoorWAuto
namespace Go.Proofs.YthcoccoanpmhgaaDoor
open Go.RowKit
attribute [local irreducible] EachR AO IterP RoundP ADr AL AW Then InBlock RetP Tells APure ACall
set_option linter.unusedVariables false
set_option linter.unusedSimpArgs false
set_option maxRecDepth 100000
def eU32 (x : UInt32) : List AV := [.lit (.int .u32 (wv x))]
def fU32 (l : List UInt32) : Nat → List AV := fun k => eU32 (l.getD k 0)
abbrev w8A (l : List UInt32) : AV := .arr 1 8 (fU32 l)
abbrev w64A (l : List UInt32) : AV := .arr 1 64 (fU32 l)
abbrev b64A (b : List UInt8) : AV := .arr 1 64 (fU8 b)
/-- Eight words, cell by cell. -/
abbrev w8C (l : List UInt32) : List AV := [.lit (.int .u32 (wv (l.getD 0 0))), .lit (.int .u32 (wv (l.getD 1 0))), .lit (.int .u32 (wv (l.getD 2 0))), .lit (.int .u32 (wv (l.getD 3 0))), .lit (.int .u32 (wv (l.getD 4 0))), .lit (.int .u32 (wv (l.getD 5 0))), .lit (.int .u32 (wv (l.getD 6 0))), .lit (.int .u32 (wv (l.getD 7 0)))]
theorem arr_num {O : Nat → Prop} {w : World} {μ : Mu} {n : Nat} {f : Nat → List AV} {v : Value} (g : Nat → Value) (hg : ∀ k, k < n → f k = [.lit (g k)]) (h : RV O w μ (.arr 1 n f) v) : v = .agg ((List.range n).map g).toArray := by
  cases h with
  | arr ho h1 h2 h3 =>
    rename_i vs
    congr 2
    apply List.ext_getElem
    · simp [h1]
    · intro k hk hk'
      simp at hk'
      have := h3 k 0 _ _ hk' (by rw [hg k hk']; rfl) (List.getElem?_eq_getElem (by omega))
      have e : vs[k * 1 + 0] = g k := this.lit_eq
      simp only [Nat.mul_one, Nat.add_zero] at e
      simp [e]
theorem num_arr {O : Nat → Prop} {w : World} {μ : Mu} {n : Nat} {f : Nat → List AV} {vs : List Value} (hl : vs.length = n) (h1 : ∀ u ∈ vs, u.oneCell' = true) (hg : ∀ k u, vs[k]? = some u → f k = [.lit u]) : RV O w μ (.arr 1 n f) (.agg vs.toArray) := by
  refine .arr h1 (by simp [hl]) (fun k hk => by rw [hg k _ (List.getElem?_eq_getElem (by omega))]; rfl) fun k j a v hk ha hv => ?_
  rw [hg k _ (List.getElem?_eq_getElem (by omega))] at ha
  cases j with
  | zero =>
    simp at ha hv
    subst ha
    rw [List.getElem?_eq_getElem (by omega)] at hv
    injection hv with hv; subst hv
    exact .lit _
  | succ j => simp at ha
theorem u32s_arr {O : Nat → Prop} {w : World} {μ : Mu} {n : Nat} {l : List UInt32} (hl : l.length = n) : RV O w μ (.arr 1 n (fU32 l)) (.agg (u32s l)) := by
  unfold u32s
  refine num_arr (by simp [hl]) (fun u hu => ?_) fun k u hu => ?_
  · obtain ⟨x, _, rfl⟩ := List.mem_map.1 hu; rfl
  · simp only [List.getElem?_map, Option.map_eq_some_iff] at hu
    obtain ⟨x, hx, rfl⟩ := hu
    simp [fU32, eU32, List.getD_eq_getElem?_getD, hx]
theorem arr_u32s {O : Nat → Prop} {w : World} {μ : Mu} {n : Nat} {l : List UInt32} (hl : l.length = n) {v : Value} (h : RV O w μ (.arr 1 n (fU32 l)) v) : v = .agg (u32s l) := by
  rw [arr_num (fun k => .int .u32 (wv (l.getD k 0))) (fun k _ => rfl) h]
  unfold u32s
  congr 2
  apply List.ext_getElem
  · simp [hl]
  · intro k h1 h2; simp at h1 h2; simp [List.getD_eq_getElem?_getD, h2]
theorem arr_b8s {O : Nat → Prop} {w : World} {μ : Mu} {n : Nat} {l : List UInt8} (hl : l.length = n) {v : Value} (h : RV O w μ (.arr 1 n (fU8 l)) v) : v = .agg (b8s l) := by
  rw [arr_num (fun k => .int .u8 (l.getD k 0).toNat) (fun k _ => rfl) h]
  unfold b8s
  congr 2
  apply List.ext_getElem
  · simp [hl]
  · intro k h1 h2; simp at h1 h2; simp [List.getD_eq_getElem?_getD, h2]
theorem tabB_of {X : Nat → Prop} {μ : Mu} {w : World} (h : GlobOk X μ w) : TabB w := by
  obtain ⟨h1, _, _, h4⟩ := h 0 _ (by unfold globs; exact List.mem_singleton.2 rfl)
  exact ⟨h1, fun j v hv => h4 j v (by simpa [u32s] using hv)⟩
theorem glob_of {w : World} (h : TabB w) : GlobOk (fun _ => False) noMu w := fun g cs hg => by
  unfold globs at hg
  obtain ⟨rfl, rfl⟩ := Prod.mk.inj (List.mem_singleton.1 hg)
  exact ⟨h.1, fun h => h, fun i m h => (by cases h), fun j u hu => h.2 j u (by simpa [u32s] using hu)⟩
/-- A contract in the world's words. -/
theorem apure_calls {P : Program} {f : FuncId} {args : List AV} {r : AV} (vs : List Value) (v : Value) (ha : ∀ (O : Nat → Prop) (w : World) (μ : Mu) (us : List Value), RVs O w μ args us → us = vs) (hr : ∀ (O : Nat → Prop) (w : World), RV O w noMu r v)
    (h : ∀ (X : Nat → Prop) (μ : Mu) w, GlobOk X μ w → Calls P f vs.toArray w fun e w' => e = .returned v ∧ Below w.heap.size w w') : APure P f args r [] := by
  unfold APure ACall
  intro w X μ us hH hv
  obtain rfl := ha _ _ _ _ hv
  refine (h X μ w hH.gl).mono fun e w' ⟨he, hb⟩ => ⟨v, r, [], [], μ, he, ⟨rfl, rfl⟩, hH.below hb, (hr _ _).up, Chg.of_below hb, Ext.refl _ _, Nat.le_refl _, fun k x u _ hx => hx.later hb⟩
theorem rvs1 {O : Nat → Prop} {w : World} {μ : Mu} {a : AV} {v : Value} (h : ∀ u, RV O w μ a u → u = v) {us : List Value} (hv : RVs O w μ [a] us) : us = [v] := by
  obtain ⟨u, us', rfl, h1, h2⟩ := hv.uncons
  rw [h2.unnil, h u h1]
theorem rvs2 {O : Nat → Prop} {w : World} {μ : Mu} {a b : AV} {v u : Value} (h : ∀ u, RV O w μ a u → u = v) (h' : ∀ x, RV O w μ b x → x = u) {us : List Value} (hv : RVs O w μ [a, b] us) : us = [v, u] := by
  obtain ⟨u1, us', rfl, h1, h2⟩ := hv.uncons
  rw [rvs1 h' h2, h u1 h1]
theorem mix_len (h : List UInt32) (b : List UInt8) (hh : h.length = 8) : (mix h b).length = 8 := by simp [mix, BSt.list, hh]
theorem bmix_p (h : List UInt32) (b : List UInt8) (hh : h.length = 8) (hb : b.length = 64) : APure Tryd.prog 12 [w8A h, b64A b] (w8A (mix h b)) [] :=
  apure_calls [.agg (u32s h), .agg (b8s b)] _ (fun O w μ us => rvs2 (fun u => arr_u32s hh) fun u => arr_b8s hb) (fun O w => u32s_arr (mix_len h b hh)) fun X μ w hg => mix_calls h b hh hb w (tabB_of hg)
theorem goBMix : GoFn Tryd.prog 12 := ⟨_, _, Tryd.func12, by kernel_rfl, rfl⟩
theorem bfirst_p : APure Tryd.prog 8 [] (w8A firsts) [] := apure_calls [] _ (fun O w μ us h => h.unnil) (fun O w => u32s_arr rfl) fun X μ w _ => first_calls w
theorem goBFirst : GoFn Tryd.prog 8 := ⟨_, _, Tryd.func8, by kernel_rfl, rfl⟩
theorem bspread_p (b : List UInt8) (hb : b.length = 64) : APure Tryd.prog 10 [b64A b] (w64A (spread b)) [] :=
  apure_calls [.agg (b8s b)] _ (fun O w μ us => rvs1 fun u => arr_b8s hb) (fun O w => u32s_arr (rounds_len b)) fun X μ w hg => spread_calls b hb w
theorem goBSpread : GoFn Tryd.prog 10 := ⟨_, _, Tryd.func10, by kernel_rfl, rfl⟩
theorem rbmix_p (h : List UInt32) (b : List UInt8) (hh : h.length = 8) (hb : b.length = 64) : APure Tryd.prog 13 [w8A h, b64A b] (w8A (mix h b)) [] :=
  apure_calls [.agg (u32s h), .agg (b8s b)] _ (fun O w μ us => rvs2 (fun u => arr_u32s hh) fun u => arr_b8s hb) (fun O w => u32s_arr (mix_len h b hh)) fun X μ w hg => rmix_calls h b hh hb w
theorem goRBMix : GoFn Tryd.prog 13 := ⟨_, _, Tryd.func13, by kernel_rfl, rfl⟩
theorem rbfirst_p : APure Tryd.prog 9 [] (w8A firsts) [] := apure_calls [] _ (fun O w μ us h => h.unnil) (fun O w => u32s_arr rfl) fun X μ w _ => rfirst_calls w
theorem goRBFirst : GoFn Tryd.prog 9 := ⟨_, _, Tryd.func9, by kernel_rfl, rfl⟩
/-- Words, as an array and cell by cell. -/
theorem leW8 (l : List UInt32) : AV.Le (w8A l) (.agg (w8C l)) := fun O w μ v h => by
  rw [arr_num (fun k => .int .u32 (wv (l.getD k 0))) (fun k _ => rfl) h]
  exact .agg rfl fun j a v ha hv => by
    match j, ha, hv with
    | 0, ha, hv | 1, ha, hv | 2, ha, hv | 3, ha, hv | 4, ha, hv | 5, ha, hv | 6, ha, hv | 7, ha, hv =>
      simp [List.range_succ] at ha hv
      subst ha hv
      exact .lit _
    | j + 8, ha, hv => simp at ha
theorem leC8 (l : List UInt32) : AV.Le (.agg (w8C l)) (w8A l) := fun O w μ v h => by
  cases h with
  | agg h1 h2 =>
    rename_i vs
    match vs, h1, h2 with
    | [v0, v1, v2, v3, v4, v5, v6, v7], _, h2 =>
      obtain rfl := (h2 0 _ _ rfl rfl).lit_eq
      obtain rfl := (h2 1 _ _ rfl rfl).lit_eq
      obtain rfl := (h2 2 _ _ rfl rfl).lit_eq
      obtain rfl := (h2 3 _ _ rfl rfl).lit_eq
      obtain rfl := (h2 4 _ _ rfl rfl).lit_eq
      obtain rfl := (h2 5 _ _ rfl rfl).lit_eq
      obtain rfl := (h2 6 _ _ rfl rfl).lit_eq
      obtain rfl := (h2 7 _ _ rfl rfl).lit_eq
      refine num_arr rfl (fun u hu => ?_) fun k u hu => ?_
      · simp only [List.mem_cons, List.not_mem_nil, or_false] at hu
        rcases hu with rfl | rfl | rfl | rfl | rfl | rfl | rfl | rfl <;> rfl
      · match k, hu with
        | 0, hu | 1, hu | 2, hu | 3, hu | 4, hu | 5, hu | 6, hu | 7, hu => simp at hu; subst hu; rfl
        | k + 8, hu => simp at hu
/-- The first octets of a slice, as an array of so many. -/
theorem leTake {b : List UInt8} (h : 64 ≤ b.length) {c : Int} : AV.Le (.agg ((((List.range 64).map (cutF none (fU8 b))).flatten).take 64)) (b64A (b.take 64)) := fun O w μ v hv => by
  have e : ((((List.range 64).map (cutF none (fU8 b))).flatten).take 64) = (List.range 64).map fun k => .lit (.int .u8 (b.getD k 0).toNat) := by rfl
  rw [e] at hv
  cases hv with
  | agg h1 h2 =>
    rename_i vs
    simp at h1
    refine num_arr h1.symm (fun u hu => ?_) fun k u hu => ?_
    · obtain ⟨k, hk⟩ := List.getElem?_of_mem hu
      have hlt : k < 64 := by have := (List.getElem?_eq_some_iff.1 hk).1; omega
      have := (h2 k _ u (by simp [hlt]; rfl) hk).lit_eq
      subst this; rfl
    · have hlt : k < 64 := by have := (List.getElem?_eq_some_iff.1 hu).1; omega
      have := (h2 k _ u (by simp [hlt]; rfl) hu).lit_eq
      subst this
      simp [fU8, eU8, List.getD_eq_getElem?_getD, List.getElem?_take_of_lt hlt]
end Go.Proofs.YthcoccoanpmhgaaDoor
