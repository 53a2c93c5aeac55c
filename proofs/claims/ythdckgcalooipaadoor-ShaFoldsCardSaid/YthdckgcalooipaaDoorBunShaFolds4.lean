/- Layer 1, the laws as they are of lists of octets. Layer 1: order, and numbers one behind the other. The seat's types, as a table; data of octets and numbers. Many steps of a walk at once: the tactics stand in the defaults of arguments. Layer 3's contracts, for the walk without memory. Words of 32 bits, in the engine's words. Layer 4 (sha), walked. Layer 4 (sha), walked: what stands behind, and the sums. Layer 4 (sha), walked: the document's answers. []byte("..") : octets of one's own that are marked as a string's: they are data from then on. The laws of layer 4: the document's examples, and ShaIs. The laws of layer 4: ShaPad, ShaParts, ShaFolds. The laws of layer 4: ShaPad, ShaFolds. What an argument reads as, opened: the kinds of XLib out of the form's own reading. An argument that is an array of numbers, opened; the table. Arguments: octets and numbers, opened. Arguments: states of sha, opened. -/
import Derived.Test.YthdckgcalooipaaDoorProg
import Derived.ChangeArms
import Derived.ProofKit
import Derived.Lib.LaidTab
import Derived.OpenShut
import Derived.WideShapes
import Derived.Test.YthdckgcalooipaaDoorBunShaFolds3
namespace Go.Proofs.YthdckgcalooipaaDoor
section
set_option linter.unusedVariables false
set_option linter.unusedSimpArgs false
theorem u8of_lt {n : Int} (h0 : 0 ≤ n) (h1 : n < 256) : ((u8of n).toNat : Int) = n := by rw [u8of_nat]; omega
theorem vput_cases (n : Int) (h : vsize n ≠ 0) : (0 ≤ n ∧ n < 64 ∧ vsize n = 1 ∧ vput n = [u8of n]) ∨ (64 ≤ n ∧ n < 16384 ∧ vsize n = 2 ∧ vput n = [u8of (64 + n / 256), u8of n]) ∨
    (16384 ≤ n ∧ n ≤ 1073741823 ∧ vsize n = 4 ∧ vput n = [u8of (128 + n / 16777216), u8of (n / 65536), u8of (n / 256), u8of n]) := by
  unfold vsize vput at *
  by_cases h0 : n < 0 ∨ n > 1073741823
  · rw [if_pos h0] at h; exact absurd rfl h
  · by_cases h1 : n < 64
    · left; simp [h0, h1]; omega
    · by_cases h2 : n < 16384
      · right; left; simp [h0, h1, h2]; omega
      · right; right; simp [h0, h1, h2]; omega
theorem vput_none {n : Int} (h : vsize n = 0) : vput n = [] ∧ (n < 0 ∨ 1073741823 < n) := by
  unfold vsize vput at *
  by_cases h0 : n < 0 ∨ n > 1073741823
  · exact ⟨if_pos h0, h0⟩
  · rw [if_neg h0] at h
    split at h
    · cases h
    · split at h <;> cases h
theorem vput_len (n : Int) : ((vput n).length : Int) = vsize n := by
  by_cases h : vsize n = 0
  · rw [(vput_none h).1, h]; rfl
  · rcases vput_cases n h with ⟨_, _, h1, h2⟩ | ⟨_, _, h1, h2⟩ | ⟨_, _, h1, h2⟩ <;> rw [h1, h2] <;> rfl
theorem vlen_1 {x : UInt8} {n : Int} (h : (x.toNat : Int) = n) (h1 : n < 64) : vlen x = 1 := by unfold vlen; rw [if_pos (by omega)]
theorem vlen_2 {x : UInt8} {n : Int} (h : (x.toNat : Int) = n) (h1 : 64 ≤ n) (h2 : n < 128) : vlen x = 2 := by unfold vlen; rw [if_neg (by omega), if_pos (by omega)]
theorem vlen_4 {x : UInt8} {n : Int} (h : (x.toNat : Int) = n) (h1 : 128 ≤ n) (h2 : n < 192) : vlen x = 4 := by unfold vlen; rw [if_neg (by omega), if_neg (by omega), if_pos (by omega)]
theorem vget_put (n : Int) (t : List UInt8) (h : vsize n ≠ 0) : vget (vput n ++ t) = (n, t, 0) := by
  rcases vput_cases n h with ⟨h0, h1, h2, h3⟩ | ⟨h0, h1, h2, h3⟩ | ⟨h0, h1, h2, h3⟩
  · have e1 := u8of_lt h0 (by omega)
    have hl := vlen_1 e1 (by omega)
    have hn : beNum ((u8of n).toNat % 64 : Int) [] = n := by show ((u8of n).toNat : Int) % 64 = n; omega
    rw [h3]
    simp only [List.cons_append, List.nil_append]
    rw [vget_ok (by omega) (by omega), hl]
    simp [hn, h2]
  · have e1 := u8of_lt (n := 64 + n / 256) (by omega) (by omega)
    have e2 := u8of_nat n
    have hl := vlen_2 e1 (by omega) (by omega)
    have hn : beNum ((u8of (64 + n / 256)).toNat % 64 : Int) [u8of n] = n := by simp only [beNum, List.foldl_cons, List.foldl_nil, e1, e2]; omega
    rw [h3]
    simp only [List.cons_append, List.nil_append]
    rw [vget_ok (by omega) (by simp; omega), hl]
    simp [hn, h2]
  · have e1 := u8of_lt (n := 128 + n / 16777216) (by omega) (by omega)
    have e2 := u8of_nat (n / 65536)
    have e3 := u8of_nat (n / 256)
    have e4 := u8of_nat n
    have hl := vlen_4 e1 (by omega) (by omega)
    have hn : beNum ((u8of (128 + n / 16777216)).toNat % 64 : Int) [u8of (n / 65536), u8of (n / 256), u8of n] = n := by simp only [beNum, List.foldl_cons, List.foldl_nil, e1, e2, e3, e4]; omega
    rw [h3]
    simp only [List.cons_append, List.nil_append]
    rw [vget_ok (by omega) (by simp; omega), hl]
    simp [hn, h2]
theorem vget_cut (n : Int) (i : Nat) (h : i < (vput n).length) : vget ((vput n).take i) = (0, [], 1) := by
  have hv : vsize n ≠ 0 := by intro e; rw [(vput_none e).1] at h; simp at h
  cases i with
  | zero => rfl
  | succ i =>
    rcases vput_cases n hv with ⟨h0, h1, h2, h3⟩ | ⟨h0, h1, h2, h3⟩ | ⟨h0, h1, h2, h3⟩ <;> rw [h3] at h ⊢ <;> simp only [List.length_cons, List.length_nil] at h <;> rw [List.take_succ_cons]
    · omega
    · have hl := vlen_2 (u8of_lt (n := 64 + n / 256) (by omega) (by omega)) (by omega) (by omega)
      rw [vget_bad (.inr (by rw [hl, List.length_take]; simp; omega)), hl]; rfl
    · have hl := vlen_4 (u8of_lt (n := 128 + n / 16777216) (by omega) (by omega)) (by omega) (by omega)
      rw [vget_bad (.inr (by rw [hl, List.length_take]; simp; omega)), hl]; rfl
theorem vget_err (b : List UInt8) : (vget b).2.2 = 0 ∨ ((vget b).1 = 0 ∧ (vget b).2.1 = [] ∧ ((vget b).2.2 = 1 ∨ (vget b).2.2 = 2)) := by
  cases b with
  | nil => exact .inr ⟨rfl, rfl, .inl rfl⟩
  | cons x r =>
    rw [vget_cons]
    split
    · exact .inr ⟨rfl, rfl, .inr rfl⟩
    · split
      · exact .inr ⟨rfl, rfl, .inl rfl⟩
      · split
        · exact .inr ⟨rfl, rfl, .inr rfl⟩
        · exact .inl rfl
theorem u8_eq {x : UInt8} {n : Int} (h : (x.toNat : Int) = n % 256) : u8of n = x := by
  apply UInt8.toNat_inj.1
  have := u8of_nat n
  omega
theorem vput_get (b : List UInt8) (h : (vget b).2.2 = 0) : vput (vget b).1 ++ (vget b).2.1 = b ∧ vsize (vget b).1 ≠ 0 := by
  cases b with
  | nil => cases h
  | cons x r =>
    have hx := UInt8.toNat_lt x
    by_cases hb : vlen x = 0 ∨ r.length + 1 < vlen x
    · rw [vget_bad hb] at h
      by_cases h0 : vlen x = 0 <;> simp [h0] at h
    · have h1 : 1 ≤ vlen x := by omega
      have h2 : vlen x ≤ r.length + 1 := by omega
      rw [vget_ok h1 h2] at h ⊢
      by_cases hv : vsize (beNum (x.toNat % 64 : Int) (r.take (vlen x - 1))) ≠ vlen x
      · rw [if_pos hv] at h; cases h
      · rw [if_neg hv]
        have hv := Decidable.not_not.1 hv
        have hcs : (x.toNat < 64 ∧ vlen x = 1) ∨ (64 ≤ x.toNat ∧ x.toNat < 128 ∧ vlen x = 2) ∨ (128 ≤ x.toNat ∧ x.toNat < 192 ∧ vlen x = 4) := by
          revert h1; unfold vlen
          (repeat' split) <;> omega
        rcases hcs with ⟨g1, g2⟩ | ⟨g1, g3, g2⟩ | ⟨g1, g3, g2⟩
        · rw [g2] at hv ⊢
          simp only [Nat.sub_self, List.take_zero, beNum, List.foldl_nil] at hv ⊢
          have hz : vsize ((x.toNat : Int) % 64) ≠ 0 := by rw [hv]; decide
          rcases vput_cases _ hz with ⟨k0, k1, k2, k3⟩ | ⟨k0, k1, k2, k3⟩ | ⟨k0, k1, k2, k3⟩
          · rw [k3]; exact ⟨by simp; exact u8_eq (by omega), hz⟩
          · omega
          · omega
        · obtain ⟨y, r, rfl⟩ : ∃ y r', r = y :: r' := by cases r with | nil => simp at h2; omega | cons y r' => exact ⟨y, r', rfl⟩
          have hy := UInt8.toNat_lt y
          rw [g2] at hv ⊢
          simp only [Nat.reduceSub, List.take_succ_cons, List.take_zero, beNum, List.foldl_cons, List.foldl_nil] at hv ⊢
          have hz : vsize ((x.toNat : Int) % 64 * 256 + y.toNat) ≠ 0 := by rw [hv]; decide
          rcases vput_cases _ hz with ⟨k0, k1, k2, k3⟩ | ⟨k0, k1, k2, k3⟩ | ⟨k0, k1, k2, k3⟩
          · rw [k2] at hv; cases hv
          · rw [k3]; exact ⟨by simp; exact ⟨u8_eq (by omega), u8_eq (by omega)⟩, hz⟩
          · rw [k2] at hv; cases hv
        · obtain ⟨y, z, u, r, rfl⟩ : ∃ y z u r', r = y :: z :: u :: r' := by
            match r, h2 with
            | [], h => simp at h; omega
            | [_], h => simp at h; omega
            | [_, _], h => simp at h; omega
            | y :: z :: u :: r', _ => exact ⟨y, z, u, r', rfl⟩
          have hy := UInt8.toNat_lt y
          have hz' := UInt8.toNat_lt z
          have hu := UInt8.toNat_lt u
          rw [g2] at hv ⊢
          simp only [Nat.reduceSub, List.take_succ_cons, List.take_zero, beNum, List.foldl_cons, List.foldl_nil] at hv ⊢
          generalize hn : (((x.toNat : Int) % 64 * 256 + y.toNat) * 256 + z.toNat) * 256 + u.toNat = n at *
          have hz : vsize n ≠ 0 := by rw [hv]; decide
          rcases vput_cases _ hz with ⟨k0, k1, k2, k3⟩ | ⟨k0, k1, k2, k3⟩ | ⟨k0, k1, k2, k3⟩
          · rw [k2] at hv; cases hv
          · rw [k2] at hv; cases hv
          · rw [k3]; exact ⟨by simp; exact ⟨u8_eq (by omega), u8_eq (by omega), u8_eq (by omega), u8_eq (by omega)⟩, hz⟩
end
end Go.Proofs.YthdckgcalooipaaDoor
namespace Go.Proofs.YthdckgcalooipaaDoor
section
set_option linter.unusedVariables false
set_option linter.unusedSimpArgs false
theorem less_nil : Op.bytesLess [] [] = false := rfl
theorem less_cons (a b : UInt8) (x y : List UInt8) : Op.bytesLess (a :: x) (b :: y) = (a < b || (a == b && Op.bytesLess x y)) := rfl
theorem u8_lt_iff {a b : UInt8} {n m : Int} (ha : (a.toNat : Int) = n) (hb : (b.toNat : Int) = m) : (decide (a < b)) = decide (n < m) := by
  rw [decide_eq_decide, UInt8.lt_iff_toNat_lt]; omega
theorem u8_beq_iff {a b : UInt8} {n m : Int} (ha : (a.toNat : Int) = n) (hb : (b.toNat : Int) = m) : (a == b) = decide (n = m) := by
  rw [Bool.eq_iff_iff, beq_iff_eq, decide_eq_true_eq, ← UInt8.toNat_inj]; omega
theorem digits4 (n : Int) (h0 : 0 ≤ n) (h1 : n ≤ 1073741823) : ∃ a b c d, (128 + n / 16777216) % 256 = 128 + a ∧ (n / 65536) % 256 = b ∧ (n / 256) % 256 = c ∧ n % 256 = d ∧ 0 ≤ b ∧ b < 256 ∧ 0 ≤ c ∧ c < 256 ∧ 0 ≤ d ∧ d < 256 ∧ n = a * 16777216 + b * 65536 + c * 256 + d :=
  ⟨_, _, _, _, by omega, rfl, rfl, rfl, by omega, by omega, by omega, by omega, by omega, by omega, show n = (n / 16777216) * 16777216 + (n / 65536) % 256 * 65536 + (n / 256) % 256 * 256 + n % 256 by omega⟩
theorem vput_less {n m : Int} (hn : vsize n ≠ 0) (hs : vsize n = vsize m) : Op.bytesLess (vput n) (vput m) = decide (n < m) := by
  have hm : vsize m ≠ 0 := by rw [← hs]; exact hn
  rcases vput_cases n hn with ⟨a0, a1, a2, a3⟩ | ⟨a0, a1, a2, a3⟩ | ⟨a0, a1, a2, a3⟩ <;> rcases vput_cases m hm with ⟨b0, b1, b2, b3⟩ | ⟨b0, b1, b2, b3⟩ | ⟨b0, b1, b2, b3⟩ <;> (try (rw [a2, b2] at hs; cases hs)) <;> rw [a3, b3] <;>
    simp only [less_cons, less_nil, u8_lt_iff (u8of_nat _) (u8of_nat _), u8_beq_iff (u8of_nat _) (u8of_nat _)] <;> rw [Bool.eq_iff_iff] <;> simp only [Bool.or_eq_true, Bool.and_eq_true, decide_eq_true_eq, Bool.false_eq_true, and_false, or_false]
  · omega
  · omega
  · obtain ⟨a, b, c, d, e1, e2, e3, e4, x1, x2, x3, x4, x5, x6, x7⟩ := digits4 n (by omega) a1
    obtain ⟨a', b', c', d', f1, f2, f3, f4, y1, y2, y3, y4, y5, y6, y7⟩ := digits4 m (by omega) b1
    rw [e1, e2, e3, e4, f1, f2, f3, f4]
    omega
theorem vput_head {n m : Int} (hn : vsize n ≠ 0) (hs : vsize n < vsize m) : ∃ x r y q, vput n = x :: r ∧ vput m = y :: q ∧ x.toNat < y.toNat := by
  have h0 : vsize n > 0 := by rcases vput_cases n hn with ⟨a0, a1, a2, a3⟩ | ⟨a0, a1, a2, a3⟩ | ⟨a0, a1, a2, a3⟩ <;> omega
  have hm : vsize m ≠ 0 := by omega
  rcases vput_cases n hn with ⟨a0, a1, a2, a3⟩ | ⟨a0, a1, a2, a3⟩ | ⟨a0, a1, a2, a3⟩ <;> rcases vput_cases m hm with ⟨b0, b1, b2, b3⟩ | ⟨b0, b1, b2, b3⟩ | ⟨b0, b1, b2, b3⟩ <;> (try (exfalso; omega)) <;> rw [a3, b3] <;>
    refine ⟨_, _, _, _, rfl, rfl, ?_⟩ <;> (have h1 := u8of_nat n) <;> (have h2 := u8of_nat (64 + m / 256)) <;> (have h3 := u8of_nat (128 + m / 16777216)) <;> (have h4 := u8of_nat (64 + n / 256)) <;> omega
theorem vsize_mono {n m : Int} (hm : vsize m ≠ 0) (h0 : 0 ≤ n) (h : n ≤ m) : vsize n ≤ vsize m := by
  unfold vsize at *
  (repeat' split) <;> (repeat' split at hm) <;> omega
def cat (l : List Int) : List UInt8 := (l.map vput).flatten
theorem cat_snoc (l : List Int) (j : Nat) (h : j < l.length) : cat (l.take (j + 1)) = cat (l.take j) ++ vput l[j] := by
  unfold cat
  rw [List.take_succ_eq_append_getElem h]
  simp only [List.map_append, List.map_cons, List.map_nil, List.flatten_append, List.flatten_cons, List.flatten_nil, List.append_nil]
theorem vput_len4 (n : Int) : (vput n).length ≤ 4 := by
  by_cases h : vsize n = 0
  · rw [(vput_none h).1]; simp
  · rcases vput_cases n h with ⟨_, _, _, h2⟩ | ⟨_, _, _, h2⟩ | ⟨_, _, _, h2⟩ <;> rw [h2] <;> simp
theorem cat_len : ∀ (l : List Int), (cat l).length ≤ 4 * l.length
  | [] => by simp [cat]
  | x :: l => by
    have h1 := cat_len l
    have h2 := vput_len4 x
    simp only [cat, List.map_cons, List.flatten_cons, List.length_append, List.length_cons] at *
    omega
theorem cat_drop (l : List Int) (j : Nat) (h : j < l.length) : cat (l.drop j) = vput l[j] ++ cat (l.drop (j + 1)) := by
  unfold cat
  rw [List.drop_eq_getElem_cons h]
  simp only [List.map_cons, List.flatten_cons]
end
end Go.Proofs.YthdckgcalooipaaDoor
namespace Go.Proofs.YthdckgcalooipaaDoor
section
open Go.RowKit
set_option linter.unusedVariables false
set_option linter.unusedSimpArgs false
def tyL : List (TypeId × TyI) := [
  (3, ⟨.int .i64, 1, 8, [.int .i64 0]⟩)
  , (4, ⟨.bool, 1, 1, [.bool false]⟩)
  , (5, ⟨.int .u8, 1, 1, [.int .u8 0]⟩)
  , (9, ⟨.str, 1, 16, [.string .empty]⟩)
  , (24, ⟨.slice 5, 1, 24, [.slice none 0 0]⟩)
  , (52, ⟨.int .u64, 1, 8, [.int .u64 0]⟩)
  , (22, ⟨.int .u32, 1, 4, [.int .u32 0]⟩)
  , (56, ⟨.slice 24, 1, 24, [.slice none 0 0]⟩)
  , (46, ⟨.func, 1, 8, [.nilFunc]⟩)
  , (59, ⟨.slice 22, 1, 24, [.slice none 0 0]⟩)
  , (23, ⟨.arr 8 22, 8, 32, [.int .u32 0]⟩)
  , (53, ⟨.arr 64 22, 64, 256, [.int .u32 0]⟩)
  , (44, ⟨.arr 64 5, 64, 64, [.int .u8 0]⟩)
  , (30, ⟨.struct [(0, 23), (8, 24), (9, 3)], 10, 64, [.int .u32 0, .int .u32 0, .int .u32 0, .int .u32 0, .int .u32 0, .int .u32 0, .int .u32 0, .int .u32 0, .slice none 0 0, .int .i64 0]⟩)
  , (58, ⟨.ptr 30, 1, 8, [.pointer none]⟩)
  , (26, ⟨.struct [(0, 23), (8, 24), (9, 3)], 10, 64, [.int .u32 0, .int .u32 0, .int .u32 0, .int .u32 0, .int .u32 0, .int .u32 0, .int .u32 0, .int .u32 0, .slice none 0 0, .int .i64 0]⟩)
  , (50, ⟨.func, 1, 8, [.nilFunc]⟩)
  ]
abbrev tab : Tab := tabOf tyL
theorem hT : TabOk Tryd.prog tab := tabOf_ok (by kernel_rfl)
abbrev int (n : Int) : AV := .lit (.int .i64 n)
def eU8 (x : UInt8) : List AV := [.lit (.int .u8 x.toNat)]
def eI64 (x : Int) : List AV := [.lit (.int .i64 x)]
def fU8 (b : List UInt8) : Nat → List AV := fun k => eU8 (b.getD k 0)
def fI64 (b : List Int) : Nat → List AV := fun k => eI64 (b.getD k 0)
abbrev bytes (b : List UInt8) : AV := .sl 1 b.length false (fU8 b)
abbrev ints (b : List Int) : AV := .sl 1 b.length false (fI64 b)
abbrev oU8 (b : List UInt8) : AObj := { T := 5, sz := 1, n := b.length, f := fU8 b }
abbrev oI64 (b : List Int) : AObj := { T := 3, sz := 1, n := b.length, f := fI64 b }
/-- Lists of octets, in memory. -/
def eBB : Enc (List UInt8) := ⟨1, [], fun x => [bytes x]⟩
theorem u8of_toNat (n : Int) : ((u8of n).toNat : Int) = IntKind.u8.wrap n := by rw [u8of_nat, IntKind.wrap_u8]
theorem fU8_app {xs ys : List UInt8} {n k : Nat} (hn : n = xs.length) (hk : k < n + ys.length) : fU8 (xs ++ ys) k = appF n (fU8 xs) (fU8 ys) k := by
  subst hn
  unfold fU8
  by_cases h : k < xs.length
  · rw [appF_lt h]; simp [List.getD_eq_getElem?_getD, List.getElem?_append_left h]
  · rw [appF_ge (by omega)]; simp [List.getD_eq_getElem?_getD, List.getElem?_append_right (show xs.length ≤ k by omega)]
theorem fI64_app {xs ys : List Int} {n k : Nat} (hn : n = xs.length) (hk : k < n + ys.length) : fI64 (xs ++ ys) k = appF n (fI64 xs) (fI64 ys) k := by
  subst hn
  unfold fI64
  by_cases h : k < xs.length
  · rw [appF_lt h]; simp [List.getD_eq_getElem?_getD, List.getElem?_append_left h]
  · rw [appF_ge (by omega)]; simp [List.getD_eq_getElem?_getD, List.getElem?_append_right (show xs.length ≤ k by omega)]
theorem appF_congr {n k : Nat} {f g g' : Nat → List AV} (h : ∀ j, n + j = k → g j = g' j) : appF n f g k = appF n f g' k := by
  by_cases hk : k < n
  · rw [appF_lt hk, appF_lt hk]
  · rw [appF_ge (by omega), appF_ge (by omega)]; exact h _ (by omega)
theorem isOctets_fU8 (xs : List UInt8) (n : Nat) : isOctets n (fU8 xs) := fun k hk => ⟨_, rfl⟩
theorem octets_fU8 (xs : List UInt8) : octets xs.length (fU8 xs) = xs := by
  unfold octets
  apply List.ext_getElem
  · simp
  · intro i h1 h2
    simp only [List.getElem_map, List.getElem_range, fU8, eU8, List.getD_eq_getElem?_getD, List.getElem?_eq_getElem h2, Option.getD_some]
    simp
theorem and_mask (m : Int) (k : Nat) (hk : k < 63) : IntKind.i64.wrap ((BitVec.ofInt IntKind.i64.bits m &&& BitVec.ofInt IntKind.i64.bits (2 ^ k - 1)).toNat : Int) = m % 2 ^ k := by
  have hp : (2 : Nat) ^ k ≤ 2 ^ 62 := Nat.pow_le_pow_right (by decide) (by omega)
  have hp1 : 0 < (2 : Nat) ^ k := Nat.two_pow_pos k
  have e1 : ((2 : Int) ^ k - 1) = ((2 ^ k - 1 : Nat) : Int) := by rw [Int.natCast_sub hp1]; simp
  have e2 : (BitVec.ofInt IntKind.i64.bits ((2 : Int) ^ k - 1)).toNat = 2 ^ k - 1 := by
    rw [e1, BitVec.ofInt_natCast, BitVec.toNat_ofNat, Nat.mod_eq_of_lt]
    show _ < 2 ^ 64
    omega
  rw [BitVec.toNat_and, e2, Nat.and_two_pow_sub_one_eq_mod, BitVec.toNat_ofInt]
  have hlt : ((m % ((2 ^ IntKind.i64.bits : Nat) : Int)).toNat % 2 ^ k : Nat) < 2 ^ 62 := Nat.lt_of_lt_of_le (Nat.mod_lt _ hp1) hp
  have h0 : 0 ≤ m % ((2 ^ IntKind.i64.bits : Nat) : Int) := Int.emod_nonneg _ (by decide)
  have e3 : (((m % ((2 ^ IntKind.i64.bits : Nat) : Int)).toNat % 2 ^ k : Nat) : Int) = m % 2 ^ k := by
    rw [Int.natCast_emod, Int.toNat_of_nonneg h0]
    have hd : (((2 ^ k : Nat)) : Int) ∣ ((2 ^ IntKind.i64.bits : Nat) : Int) := Int.ofNat_dvd.2 (Nat.pow_dvd_pow 2 (by show k ≤ 64; omega))
    rw [Int.emod_emod_of_dvd _ hd]; simp
  rw [← e3, IntKind.wrap_i64]
  omega
/-- A literal's octets. -/
def u8s : List Int → List (List AV) := List.map fun x => [.lit (.int .u8 x)]
theorem getC_u8 : ∀ {xs : List UInt8} {l : List Int}, l = xs.map (fun x => (x.toNat : Int)) → ∀ k, k < xs.length → getC (u8s l) k = fU8 xs k
  | [], l, h, k, hk => by simp at hk
  | x :: xs, l, h, 0, hk => by subst h; rfl
  | x :: xs, l, h, k + 1, hk => by
    subst h
    have := getC_u8 (xs := xs) rfl k (by simpa using hk)
    simp only [getC, nth_eq, u8s, List.map_cons, List.getElem?_cons_succ] at this ⊢
    rw [this]; simp [fU8, List.getD_eq_getElem?_getD]
theorem appU8 {xs ys : List UInt8} {l : List Int} {n m : Nat} (hn : n = xs.length) (hm : m = ys.length) (h : l = ys.map (fun x => (x.toNat : Int))) : ∀ k, k < n + m → fU8 (xs ++ ys) k = appF n (fU8 xs) (getC (u8s l)) k := fun k hk => by
  subst hm
  rw [fU8_app hn hk]
  exact appF_congr fun j hj => (getC_u8 h j (by omega)).symm
theorem leU8 (xs : List UInt8) : AV.Le (.sl 1 xs.length false (getC (u8s (xs.map fun x => (x.toNat : Int))))) (bytes xs) := .sl rfl (fun h => h) fun k hk => (getC_u8 rfl k hk).symm
def eByte : Enc UInt8 := ⟨1, 0, eU8⟩
def eInt : Enc Int := ⟨1, 0, eI64⟩
theorem leCutB {n : Nat} {lo hi : Option Int} {t t' : Bool} {xs ys : List UInt8} (hn : n = xs.length) (hok : cutHi hi n ≤ n) (ht : t' = true → t = true) (hy : ys = (xs.take (cutHi hi n)).drop (cutLo lo)) :
    AV.Le (.sl 1 (cutLen lo hi n) t (cutF lo (fU8 xs))) (.sl 1 ys.length t' (fU8 ys)) := leCut (e := eByte) hn hok ht hy
theorem leCutI {n : Nat} {lo hi : Option Int} {t t' : Bool} {xs ys : List Int} (hn : n = xs.length) (hok : cutHi hi n ≤ n) (ht : t' = true → t = true) (hy : ys = (xs.take (cutHi hi n)).drop (cutLo lo)) :
    AV.Le (.sl 1 (cutLen lo hi n) t (cutF lo (fI64 xs))) (.sl 1 ys.length t' (fI64 ys)) := leCut (e := eInt) hn hok ht hy
theorem isOctets_cut (xs : List UInt8) (n : Nat) (lo : Option Int) : isOctets n (cutF lo (fU8 xs)) := fun k hk => by rw [cutF_eq]; exact ⟨_, rfl⟩
theorem octets_cut {xs : List UInt8} {n : Nat} {lo hi : Option Int} (hn : n = xs.length) (h : cutHi hi n ≤ n) : octets (cutLen lo hi n) (cutF lo (fU8 xs)) = (xs.take (cutHi hi n)).drop (cutLo lo) := by
  subst hn
  unfold octets
  rw [cutLen_eq]
  apply List.ext_getElem
  · simp [Nat.min_eq_left h]
  · intro i h1 h2
    simp only [List.length_map, List.length_range] at h1
    have h3 : cutLo lo + i < xs.length := by omega
    simp only [List.getElem_map, List.getElem_range, cutF_eq, fU8, eU8, List.getD_eq_getElem?_getD, List.getElem?_eq_getElem h3, Option.getD_some, List.getElem_drop, List.getElem_take]
    simp
theorem leLitB {n : Nat} {t : Bool} {xs : List UInt8} {css : List (List AV)} (h : css = xs.map eU8) (hn : n = xs.length) : AV.Le (.sl 1 n t (getC css)) (bytes xs) := leLit (e := eByte) h hn
theorem leZeroB (n : Nat) : AV.Le (.sl 1 n false fun _ => [.lit (.int .u8 0)]) (bytes (List.replicate n 0)) := .sl (by simp) (fun h => h) fun k hk => by
  simp [fU8, eU8, List.getD_eq_getElem?_getD, hk]
end
end Go.Proofs.YthdckgcalooipaaDoor
namespace Go.Proofs.YthdckgcalooipaaDoor
section
open Go.RowKit
attribute [local irreducible] EachR AO IterP RoundP ADr AL AW Then InBlock RetP Tells APure ACall
set_option linter.unusedVariables false
set_option linter.unusedSimpArgs false
theorem hmix : Tryd.prog.follows .mixedOrders = true := by kernel_rfl
theorem blt0 (n : Nat) : Nat.blt n 0 = false := by cases n <;> rfl
/-- What is left to do. -/
structure Hold (G : Prop) : Prop where
  out : G
/-- As many steps as go. -/
theorem go {G A : Prop} (k : Hold G) (h : Hold G → A := by
  intro k
  try simp only [lst, junkL, setsL, setn]
  first | (conv => arg 8; simp only [St.put, St.behind, blt0, St.ev, setn, nth, Option.getD, lits, idf_lit4, idf_sl4, idf_ip4, idf_arr4, idf_row4, idf_ptr4, idf_fn4, idf_lit3, idf_sl3, idf_ip3, idf_row3, idf_ptr3, List.all_cons, List.all_nil, Bool.and_true, Bool.true_and, Bool.and_false, Bool.false_and, Bool.or_false, Bool.false_or, Bool.or_true, Bool.true_or, fgo_t, fgo_f, reno_t, reno_f, nbeq, Nat.reduceBEq, Nat.zero_add, Nat.add_zero, List.map_cons, List.map_nil, Int.reduceToNat, Int.toNat_natCast, List.getD_cons_zero, beq_self_eq_true, bne_self_eq_false, Bool.not_true, Bool.not_false, List.drop_zero, List.drop_succ_cons, List.take_succ_cons, List.take_zero, Int.cast_ofNat_Int, cond_true, cond_false, str_toList, str_append, octets_fU8, List.map, forget, fgs, ren, sh, reno_t, reno_f, share, nbeq, Nat.reduceBEq, Bool.or_false, Bool.false_or, Bool.or_true, Bool.true_or, List.any_nil, List.any_cons, List.nil_append, List.cons_append, List.append_nil, List.length_nil, List.length_cons, Nat.reduceAdd]) | (conv => arg 6; simp only [St.put, St.behind, blt0, St.ev, setn, nth, Option.getD, lits, idf_lit4, idf_sl4, idf_ip4, idf_arr4, idf_row4, idf_ptr4, idf_fn4, idf_lit3, idf_sl3, idf_ip3, idf_row3, idf_ptr3, List.all_cons, List.all_nil, Bool.and_true, Bool.true_and, Bool.and_false, Bool.false_and, Bool.or_false, Bool.false_or, Bool.or_true, Bool.true_or, fgo_t, fgo_f, reno_t, reno_f, nbeq, Nat.reduceBEq, Nat.zero_add, Nat.add_zero, List.map_cons, List.map_nil, Int.reduceToNat, Int.toNat_natCast, List.getD_cons_zero, beq_self_eq_true, bne_self_eq_false, Bool.not_true, Bool.not_false, List.drop_zero, List.drop_succ_cons, List.take_succ_cons, List.take_zero, Int.cast_ofNat_Int, cond_true, cond_false, str_toList, str_append, octets_fU8, List.map, forget, fgs, ren, sh, reno_t, reno_f, share, nbeq, Nat.reduceBEq, Bool.or_false, Bool.false_or, Bool.or_true, Bool.true_or, List.any_nil, List.any_cons, List.nil_append, List.cons_append, List.append_nil, List.length_nil, List.length_cons, Nat.reduceAdd]) | (conv => arg 5; simp only [St.put, St.behind, blt0, St.ev, setn, nth, Option.getD, lits, idf_lit4, idf_sl4, idf_ip4, idf_arr4, idf_row4, idf_ptr4, idf_fn4, idf_lit3, idf_sl3, idf_ip3, idf_row3, idf_ptr3, List.all_cons, List.all_nil, Bool.and_true, Bool.true_and, Bool.and_false, Bool.false_and, Bool.or_false, Bool.false_or, Bool.or_true, Bool.true_or, fgo_t, fgo_f, reno_t, reno_f, nbeq, Nat.reduceBEq, Nat.zero_add, Nat.add_zero, List.map_cons, List.map_nil, Int.reduceToNat, Int.toNat_natCast, List.getD_cons_zero, beq_self_eq_true, bne_self_eq_false, Bool.not_true, Bool.not_false, List.drop_zero, List.drop_succ_cons, List.take_succ_cons, List.take_zero, Int.cast_ofNat_Int, cond_true, cond_false, str_toList, str_append, octets_fU8, List.map, forget, fgs, ren, sh, reno_t, reno_f, share, nbeq, Nat.reduceBEq, Bool.or_false, Bool.false_or, Bool.or_true, Bool.true_or, List.any_nil, List.any_cons, List.nil_append, List.cons_append, List.append_nil, List.length_nil, List.length_cons, Nat.reduceAdd]) | skip
  repeat (first
    | with_reducible refine aw_seq ?_ | with_reducible refine aw_region ?_ | with_reducible refine aw_ret ?_ | with_reducible refine aw_skip ?_ | with_reducible refine then_norm ?_ | with_reducible refine then_ret ?_ | with_reducible refine inb_ret ?_ | with_reducible refine aw_block ?_ | with_reducible refine aw_exit ?_ | with_reducible refine then_exit ?_ | with_reducible refine inb_norm ?_ | with_reducible refine al_nil ?_ | (with_reducible refine ad_endp ?_; conv => arg 5; simp only [dropD, isDraw, cond_true, cond_false])
    | ((with_reducible refine inb_exit_ ?_); first | refine inb_exit rfl ?_ | refine inb_other rfl ?_)
    | ((with_reducible refine aw_cond_ ?_); first | refine aw_cond_t rfl ?_ | refine aw_cond_f rfl ?_)
    | ((with_reducible refine al_cons_ ?_); first
      | (refine al_pure hT rfl rfl (by first | exact True.intro | exact Nat.le_refl _ | rfl | decide | omega | exact ⟨rfl, rfl⟩ | exact ⟨rfl, by omega⟩ | exact isOctets_fU8 _ _ | exact isOctets_cut _ _ _ | (refine Int.le_trans (b := 9000000000000000000) ?_ (by decide); simp only [str_size, List.length_append, List.length_nil]; omega) | (simp only [IntKind.wrap_i64, IntKind.wrap_u64]; omega) | (simp only [cutOk, cutLen, and_true, Int.toNat_natCast, List.length_cons, List.length_append, List.length_nil, List.length_take, IntKind.wrap_i64]; omega)) ?_; conv => arg 6; try simp only [St.put, St.behind, blt0, St.ev, setn, nth, Option.getD, lits, idf_lit4, idf_sl4, idf_ip4, idf_arr4, idf_row4, idf_ptr4, idf_fn4, idf_lit3, idf_sl3, idf_ip3, idf_row3, idf_ptr3, List.all_cons, List.all_nil, Bool.and_true, Bool.true_and, Bool.and_false, Bool.false_and, Bool.or_false, Bool.false_or, Bool.or_true, Bool.true_or, fgo_t, fgo_f, reno_t, reno_f, nbeq, Nat.reduceBEq, Nat.zero_add, Nat.add_zero, List.map_cons, List.map_nil, Int.reduceToNat, Int.toNat_natCast, List.getD_cons_zero, beq_self_eq_true, bne_self_eq_false, Bool.not_true, Bool.not_false, List.drop_zero, List.drop_succ_cons, List.take_succ_cons, List.take_zero, Int.cast_ofNat_Int, cond_true, cond_false, str_toList, str_append, octets_fU8])
      | (refine al_skip rfl ?_; conv => arg 6; try simp only [St.put, setn, nth])
      | (refine al_store hT rfl rfl rfl (by refine ⟨?_, ?_⟩ <;> first | exact Nat.zero_lt_one | exact ⟨rfl, rfl⟩ | exact fun _ => rfl | exact fun h => by cases h | decide | omega | (simp only [IntKind.wrap_i64]; omega) | (simp; omega)) ?_; conv => arg 6; try simp only [splice, St.put, St.behind, blt0, St.ev, setn, nth, Option.getD, lits, idf_lit4, idf_sl4, idf_ip4, idf_arr4, idf_row4, idf_ptr4, idf_fn4, idf_lit3, idf_sl3, idf_ip3, idf_row3, idf_ptr3, List.all_cons, List.all_nil, Bool.and_true, Bool.true_and, Bool.and_false, Bool.false_and, Bool.or_false, Bool.false_or, Bool.or_true, Bool.true_or, fgo_t, fgo_f, reno_t, reno_f, nbeq, Nat.reduceBEq, Nat.zero_add, Nat.add_zero, List.map_cons, List.map_nil, Int.reduceToNat, Int.toNat_natCast, List.getD_cons_zero, beq_self_eq_true, bne_self_eq_false, Bool.not_true, Bool.not_false, List.drop_zero, List.drop_succ_cons, List.take_succ_cons, List.take_zero, Int.cast_ofNat_Int, cond_true, cond_false, str_toList, str_append, octets_fU8, List.nil_append, List.cons_append, List.append_nil, List.length_nil, List.length_cons, Nat.reduceAdd])
      | (refine al_new hT rfl rfl (by first | exact True.intro | omega | decide | exact ⟨rfl, by decide, by decide, by decide⟩) ?_; conv => arg 6; try simp only [St.put, St.behind, blt0, St.ev, setn, nth, Option.getD, lits, idf_lit4, idf_sl4, idf_ip4, idf_arr4, idf_row4, idf_ptr4, idf_fn4, idf_lit3, idf_sl3, idf_ip3, idf_row3, idf_ptr3, List.all_cons, List.all_nil, Bool.and_true, Bool.true_and, Bool.and_false, Bool.false_and, Bool.or_false, Bool.false_or, Bool.or_true, Bool.true_or, fgo_t, fgo_f, reno_t, reno_f, nbeq, Nat.reduceBEq, Nat.zero_add, Nat.add_zero, List.map_cons, List.map_nil, Int.reduceToNat, Int.toNat_natCast, List.getD_cons_zero, beq_self_eq_true, bne_self_eq_false, Bool.not_true, Bool.not_false, List.drop_zero, List.drop_succ_cons, List.take_succ_cons, List.take_zero, Int.cast_ofNat_Int, cond_true, cond_false, str_toList, str_append, octets_fU8, List.nil_append, List.cons_append, List.append_nil, List.length_nil, List.length_cons, Nat.reduceAdd]))
    | ((with_reducible refine ad_cons_ ?_); first
      | (refine ad_pure hT rfl rfl (by first | exact True.intro | exact Nat.le_refl _ | rfl | decide | omega | exact ⟨rfl, rfl⟩ | exact ⟨rfl, by omega⟩ | exact isOctets_fU8 _ _ | exact isOctets_cut _ _ _ | (refine Int.le_trans (b := 9000000000000000000) ?_ (by decide); simp only [str_size, List.length_append, List.length_nil]; omega) | (simp only [IntKind.wrap_i64, IntKind.wrap_u64]; omega) | (simp only [cutOk, cutLen, and_true, Int.toNat_natCast, List.length_cons, List.length_append, List.length_nil, List.length_take, IntKind.wrap_i64]; omega)) ?_; conv => arg 8; try simp only [St.put, St.behind, blt0, St.ev, setn, nth, Option.getD, lits, idf_lit4, idf_sl4, idf_ip4, idf_arr4, idf_row4, idf_ptr4, idf_fn4, idf_lit3, idf_sl3, idf_ip3, idf_row3, idf_ptr3, List.all_cons, List.all_nil, Bool.and_true, Bool.true_and, Bool.and_false, Bool.false_and, Bool.or_false, Bool.false_or, Bool.or_true, Bool.true_or, fgo_t, fgo_f, reno_t, reno_f, nbeq, Nat.reduceBEq, Nat.zero_add, Nat.add_zero, List.map_cons, List.map_nil, Int.reduceToNat, Int.toNat_natCast, List.getD_cons_zero, beq_self_eq_true, bne_self_eq_false, Bool.not_true, Bool.not_false, List.drop_zero, List.drop_succ_cons, List.take_succ_cons, List.take_zero, Int.cast_ofNat_Int, cond_true, cond_false, str_toList, str_append, octets_fU8])
      | (refine ad_skip rfl ?_; conv => arg 8; try simp only [St.put, setn, nth])
      | (refine ad_new hT rfl rfl (by first | exact True.intro | omega) ?_; conv => arg 8; try simp only [St.put, St.behind, blt0, St.ev, setn, nth, Option.getD, lits, idf_lit4, idf_sl4, idf_ip4, idf_arr4, idf_row4, idf_ptr4, idf_fn4, idf_lit3, idf_sl3, idf_ip3, idf_row3, idf_ptr3, List.all_cons, List.all_nil, Bool.and_true, Bool.true_and, Bool.and_false, Bool.false_and, Bool.or_false, Bool.false_or, Bool.or_true, Bool.true_or, fgo_t, fgo_f, reno_t, reno_f, nbeq, Nat.reduceBEq, Nat.zero_add, Nat.add_zero, List.map_cons, List.map_nil, Int.reduceToNat, Int.toNat_natCast, List.getD_cons_zero, beq_self_eq_true, bne_self_eq_false, Bool.not_true, Bool.not_false, List.drop_zero, List.drop_succ_cons, List.take_succ_cons, List.take_zero, Int.cast_ofNat_Int, cond_true, cond_false, str_toList, str_append, octets_fU8, List.nil_append, List.cons_append, List.append_nil, List.length_nil, List.length_cons, Nat.reduceAdd]))
    | ((first | with_reducible refine aw_drawp hmix rfl (by decide +kernel) (by decide +kernel) ?_ | with_reducible refine aw_drawpL hmix rfl (by decide +kernel) (by decide +kernel) ?_); conv => arg 7; simp only [takeD, isDraw, cond_true, cond_false])
    | ((with_reducible refine aw_cond_ ?_); first | refine aw_ift rfl (by first | assumption | omega) ?_ | refine aw_iff rfl (by first | assumption | omega) ?_)
    | ((with_reducible refine al_cons_ ?_); first | refine al_ift rfl rfl (by first | assumption | omega) ?_ | refine al_iff rfl rfl (by first | assumption | omega) ?_; conv => arg 6; simp only [setn])
    | ((with_reducible refine ad_cons_ ?_); first | refine ad_ift rfl rfl (by first | assumption | omega) ?_ | refine ad_iff rfl rfl (by first | assumption | omega) ?_; conv => arg 8; simp only [setn]))
  exact k.1) : A := h k
/-- A state in plain words. -/
theorem nz {G A : Prop} (k : Hold G) (h : Hold G → A := by
  intro k
  first
    | (conv => arg 6; simp only [St.put, St.behind, blt0, St.ev, setn, nth, Option.getD, lits, idf_lit4, idf_sl4, idf_ip4, idf_arr4, idf_row4, idf_ptr4, idf_fn4, idf_lit3, idf_sl3, idf_ip3, idf_row3, idf_ptr3, List.all_cons, List.all_nil, Bool.and_true, Bool.true_and, Bool.and_false, Bool.false_and, Bool.or_false, Bool.false_or, Bool.or_true, Bool.true_or, fgo_t, fgo_f, reno_t, reno_f, nbeq, Nat.reduceBEq, Nat.zero_add, Nat.add_zero, List.map_cons, List.map_nil, Int.reduceToNat, Int.toNat_natCast, List.getD_cons_zero, beq_self_eq_true, bne_self_eq_false, Bool.not_true, Bool.not_false, List.drop_zero, List.drop_succ_cons, List.take_succ_cons, List.take_zero, Int.cast_ofNat_Int, cond_true, cond_false, str_toList, str_append, octets_fU8, List.map, forget, fgs, ren, sh, idx, reno_t, reno_f, share, nbeq, Nat.reduceBEq, Bool.or_false, Bool.false_or, Bool.or_true, Bool.true_or, List.any_nil, List.any_cons, List.nil_append, List.cons_append, List.append_nil, List.length_nil, List.length_cons, Nat.reduceAdd])
    | (conv => arg 8; simp only [St.put, St.behind, blt0, St.ev, setn, nth, Option.getD, lits, idf_lit4, idf_sl4, idf_ip4, idf_arr4, idf_row4, idf_ptr4, idf_fn4, idf_lit3, idf_sl3, idf_ip3, idf_row3, idf_ptr3, List.all_cons, List.all_nil, Bool.and_true, Bool.true_and, Bool.and_false, Bool.false_and, Bool.or_false, Bool.false_or, Bool.or_true, Bool.true_or, fgo_t, fgo_f, reno_t, reno_f, nbeq, Nat.reduceBEq, Nat.zero_add, Nat.add_zero, List.map_cons, List.map_nil, Int.reduceToNat, Int.toNat_natCast, List.getD_cons_zero, beq_self_eq_true, bne_self_eq_false, Bool.not_true, Bool.not_false, List.drop_zero, List.drop_succ_cons, List.take_succ_cons, List.take_zero, Int.cast_ofNat_Int, cond_true, cond_false, str_toList, str_append, octets_fU8, List.map, forget, fgs, ren, sh, idx, reno_t, reno_f, share, nbeq, Nat.reduceBEq, Bool.or_false, Bool.false_or, Bool.or_true, Bool.true_or, List.any_nil, List.any_cons, List.nil_append, List.cons_append, List.append_nil, List.length_nil, List.length_cons, Nat.reduceAdd])
  exact k.1) : A := h k
/-- Slot by slot. -/
theorem les {A : Prop} (h : A := by
  repeat (first
    | exact .nil
    | refine .cons (.junk _) ?_
    | refine .cons (.refl _) ?_
    | refine .cons (AV.Le.nil rfl rfl) ?_
    | refine .cons (leU8 _) ?_
    | refine .cons (leZeroB _) ?_
    | refine .cons (leLit rfl rfl) ?_
    | refine .cons (leLitB (by first | rfl | decide) rfl) ?_
    | refine .cons (leCutB (by first | rfl | (simp; done) | fail) (by simp only [cutHi]; omega) (fun h => by first | exact h | cases h) (by first | (simp only [cutHi, cutLo]; simp; done) | (simp only [cutHi, cutLo]; (repeat rw [List.take_of_length_le (by simp <;> omega)]); simp; done) | fail)) ?_
    | refine .cons (.int (by first | rfl | assumption | omega | (simp only [IntKind.wrap_i64, IntKind.wrap_u64]; omega) | (simp; done) | (simp; omega))) ?_
    | refine .cons (AV.Le.bool (by first | rfl | assumption | (simp; done) | (simp; omega) | (simp [*]; done) | (rw [Bool.eq_iff_iff]; simp [*]; done) | (simp [*]; omega))) ?_
    | refine .cons (.row (by first | rfl | omega | (simp; done) | (simp; omega))) ?_
    | refine .cons (.sl (by first | rfl | omega | (simp; done) | (simp; omega)) (fun h => by first | exact h | cases h) (fun k hk => by first | rfl | (exact (Nat.not_lt_zero _ hk).elim) | (simp [cutF, fE, fU8, eU8, fI64, eI64, List.getD_eq_getElem?_getD]; done) | fail)) ?_
    | refine .cons (.eq (by first | rfl | assumption | (simp; done) | fail)) ?_
    | refine .cons (AV.Le.agg ?_) ?_
    | refine .cons (AV.Le.ip ?_) ?_
    | refine .cons (leArr (fun k hk => by first | rfl | (simp [*]; done) | fail)) ?_)
  first | done | fail) : A := h
/-- A call of a function that keeps to itself. -/
theorem cal {G A C D : Prop} (g : D) (c : C) (k : Hold G) (h : D → C → Hold G → A := by
  intro g c k
  first
    | (refine al_pcl rfl rfl rfl g rfl (by repeat' (first | exact trivial | exact Nat.le_refl _ | exact Nat.le_of_eq (Nat.zero_add _) | refine And.intro ?_ ?_ | omega)) c (by exact les) ?_
       conv => arg 6; try simp only [St.put, St.behind, blt0, St.ev, setn, nth, Option.getD, lits, idf_lit4, idf_sl4, idf_ip4, idf_arr4, idf_row4, idf_ptr4, idf_fn4, idf_lit3, idf_sl3, idf_ip3, idf_row3, idf_ptr3, List.all_cons, List.all_nil, Bool.and_true, Bool.true_and, Bool.and_false, Bool.false_and, Bool.or_false, Bool.false_or, Bool.or_true, Bool.true_or, fgo_t, fgo_f, reno_t, reno_f, nbeq, Nat.reduceBEq, Nat.zero_add, Nat.add_zero, List.map_cons, List.map_nil, Int.reduceToNat, Int.toNat_natCast, List.getD_cons_zero, beq_self_eq_true, bne_self_eq_false, Bool.not_true, Bool.not_false, List.drop_zero, List.drop_succ_cons, List.take_succ_cons, List.take_zero, Int.cast_ofNat_Int, cond_true, cond_false, str_toList, str_append, octets_fU8, List.map, forget, fgs, ren, sh, reno_t, reno_f, share, nbeq, Nat.reduceBEq, Bool.or_false, Bool.false_or, Bool.or_true, Bool.true_or, List.any_nil, List.any_cons, List.nil_append, List.cons_append, List.append_nil, List.length_nil, List.length_cons, Nat.reduceAdd])
    | (refine ad_pcl rfl rfl rfl g rfl c (by exact les) rfl (by repeat' (first | exact trivial | exact Nat.le_refl _ | exact Nat.le_of_eq (Nat.zero_add _) | refine And.intro ?_ ?_ | omega)) ?_
       conv => arg 8; try simp only [St.put, St.behind, blt0, St.ev, setn, nth, Option.getD, lits, idf_lit4, idf_sl4, idf_ip4, idf_arr4, idf_row4, idf_ptr4, idf_fn4, idf_lit3, idf_sl3, idf_ip3, idf_row3, idf_ptr3, List.all_cons, List.all_nil, Bool.and_true, Bool.true_and, Bool.and_false, Bool.false_and, Bool.or_false, Bool.false_or, Bool.or_true, Bool.true_or, fgo_t, fgo_f, reno_t, reno_f, nbeq, Nat.reduceBEq, Nat.zero_add, Nat.add_zero, List.map_cons, List.map_nil, Int.reduceToNat, Int.toNat_natCast, List.getD_cons_zero, beq_self_eq_true, bne_self_eq_false, Bool.not_true, Bool.not_false, List.drop_zero, List.drop_succ_cons, List.take_succ_cons, List.take_zero, Int.cast_ofNat_Int, cond_true, cond_false, str_toList, str_append, octets_fU8])
  exact k.1) : A := h g c k
/-- A call, whose arguments read as the contract has them by a proof that is given. -/
theorem calL {G A C D E : Prop} (g : D) (c : C) (e : E) (k : Hold G) (h : D → C → E → Hold G → A := by
  intro g c e k
  first
    | (refine al_pcl rfl rfl rfl g rfl (by repeat' (first | exact trivial | exact Nat.le_refl _ | exact Nat.le_of_eq (Nat.zero_add _) | refine And.intro ?_ ?_ | omega)) c e ?_
       conv => arg 6; try simp only [St.put, St.behind, blt0, St.ev, setn, nth, Option.getD, lits, idf_lit4, idf_sl4, idf_ip4, idf_arr4, idf_row4, idf_ptr4, idf_fn4, idf_lit3, idf_sl3, idf_ip3, idf_row3, idf_ptr3, List.all_cons, List.all_nil, Bool.and_true, Bool.true_and, Bool.and_false, Bool.false_and, Bool.or_false, Bool.false_or, Bool.or_true, Bool.true_or, fgo_t, fgo_f, reno_t, reno_f, nbeq, Nat.reduceBEq, Nat.zero_add, Nat.add_zero, List.map_cons, List.map_nil, Int.reduceToNat, Int.toNat_natCast, List.getD_cons_zero, beq_self_eq_true, bne_self_eq_false, Bool.not_true, Bool.not_false, List.drop_zero, List.drop_succ_cons, List.take_succ_cons, List.take_zero, Int.cast_ofNat_Int, cond_true, cond_false, str_toList, str_append, octets_fU8, List.map, forget, fgs, ren, sh, reno_t, reno_f, share, nbeq, Nat.reduceBEq, Bool.or_false, Bool.false_or, Bool.or_true, Bool.true_or, List.any_nil, List.any_cons, List.nil_append, List.cons_append, List.append_nil, List.length_nil, List.length_cons, Nat.reduceAdd])
    | (refine ad_pcl rfl rfl rfl g rfl c e rfl (by repeat' (first | exact trivial | exact Nat.le_refl _ | exact Nat.le_of_eq (Nat.zero_add _) | refine And.intro ?_ ?_ | omega)) ?_
       conv => arg 8; try simp only [St.put, St.behind, blt0, St.ev, setn, nth, Option.getD, lits, idf_lit4, idf_sl4, idf_ip4, idf_arr4, idf_row4, idf_ptr4, idf_fn4, idf_lit3, idf_sl3, idf_ip3, idf_row3, idf_ptr3, List.all_cons, List.all_nil, Bool.and_true, Bool.true_and, Bool.and_false, Bool.false_and, Bool.or_false, Bool.false_or, Bool.or_true, Bool.true_or, fgo_t, fgo_f, reno_t, reno_f, nbeq, Nat.reduceBEq, Nat.zero_add, Nat.add_zero, List.map_cons, List.map_nil, Int.reduceToNat, Int.toNat_natCast, List.getD_cons_zero, beq_self_eq_true, bne_self_eq_false, Bool.not_true, Bool.not_false, List.drop_zero, List.drop_succ_cons, List.take_succ_cons, List.take_zero, Int.cast_ofNat_Int, cond_true, cond_false, str_toList, str_append, octets_fU8])
  exact k.1) : A := h g c e k
/-- Object by object. -/
theorem leh {A : Prop} (h : A := by
  repeat (first
    | exact .nil
    | refine .cons (.of (by first | rfl | omega | (simp; done) | (simp; omega) | (simp [*]; done) | (simp [*]; omega)) (fun h => h) fun k hk => by first | rfl | (rw [map_getC]; rfl) | (exact (Nat.not_lt_zero _ hk).elim) | (simp; done) | (simp [*]; done) | fail) ?_
    | refine .cons (.les (Nat.le_refl _) (fun k _ => by exact les)) ?_)
  first | done | fail) : A := h
/-- A state, told otherwise. -/
theorem tel {A : Prop} (h : A := by
  try simp only [lst, junkL, setsL, setn]
  first
    | exact Tells.refl _
    | (refine Tells.le ?_ ?_; exact les; exact leh)
    | (refine (Tells.sel [] rfl rfl).trans (Tells.le ?_ ?_); exact les; exact leh)
    | (refine (Tells.sel [0] rfl rfl).trans (Tells.le ?_ ?_); exact les; exact leh)
    | (refine (Tells.sel [0, 1] rfl rfl).trans (Tells.le ?_ ?_); exact les; exact leh)
    | (refine (Tells.sel [1] rfl rfl).trans (Tells.le ?_ ?_); exact les; exact leh)) : A := h
/-- A loop. -/
theorem lp {P : Program} {r : Option Nat} {Q : Exit → St → Prop} {c : Code} {ι : Type} {s : List AV} {H0 : List AObj} {fg : List Nat} {nb : YB} {ws : List Nat} (g : ι → List (Nat × AV)) (Hs : ι → List AObj) (m : ι → Nat) (i0 : ι)
    (round : ∀ i, AW P r c (Then (fun σ' => ∃ j, m j < m i ∧ Tells σ' (lst s fg nb ws (g j) (Hs j))) Q) (lst s fg nb ws (g i) (Hs i)))
    (hws : wrC c = ws := by (conv => lhs; simp only [wrC, dstsL, List.cons_append, List.nil_append, List.append_nil]) <;> exact rfl)
    (h0 : Tells ⟨s, H0, fg, nb⟩ (lst s fg nb ws (g i0) (Hs i0)) := by exact tel) : AW P r (.loop c) Q ⟨s, H0, fg, nb⟩ := aw_loopA hws g Hs m i0 h0 round
/-- Where branches meet: what is known of the slots that they write. -/
theorem jn {P : Program} {r : Option Nat} {Q Q' : Exit → St → Prop} {x y : Code} {s : List AV} {H0 : List AObj} {fg : List Nat} {nb : YB} {ws : List Nat} (g : List (Nat × AV)) (H1 : List AObj)
    (h1 : AW P r x (Then (fun σ' => Tells σ' (lst s fg nb ws g H1)) Q') ⟨s, H0, fg, nb⟩) (h2 : AW P r y Q (lst s fg nb ws g H1))
    (hws : wrC x = ws := by (conv => lhs; simp only [wrC, dstsL, List.cons_append, List.nil_append, List.append_nil]) <;> exact rfl) : AW P r x (Then (AW P r y Q) Q') ⟨s, H0, fg, nb⟩ := aw_joinw hws g H1 h1 h2
theorem je {n : St → Prop} {Q : Exit → St → Prop} {σ : St} (h : n σ) : Then n Q .normal σ := round_end h
/-- append. -/
theorem app {P : Program} {tab : Tab} {r : Option Nat} {l R : List Oper} {Q : Exit → St → Prop} {σ : St} {o : Oper} {q : Prop} {y : AV} {H' : List AObj} {id : Nat} {ob : AObj} {t : TypeId} {sx xx : Operand} (f' : Nat → List AV) (hT : TabOk P tab) (hw : wantA l σ o = some true) (ho : o.op = .call { callee := .builtin .append, args := #[sx, xx], argTypes := #[t, t] })
    (h : aAppend tab σ.H t (σ.ev sx) (σ.ev xx) = some (q, y, H', some id)) (hob : nth H' id = some ob) (hf : ∀ k, k < ob.n → f' k = ob.f k)
    (next : AL P r l Q R ((σ.behind (setn H' id { ob with f := f' }) (some id)).put o.dst y)) (hq : q := by first | (refine ⟨trivial, Nat.le_refl _, ?_, ?_⟩ <;> (try dsimp only) <;> omega) | (simp; omega) | (simp [*]; omega) | (simp; done) | (refine ⟨?_, ?_, ?_, ?_⟩ <;> first | exact trivial | exact Nat.le_refl _ | (simp [*]; omega) | omega)) : AL P r l Q (o :: R) σ := al_app f' hT hw ho h hob hq hf next
/-- The answer is what is said of it. -/
theorem fin {A : Prop} (h : A := by
  first | refine ret1 rfl (by repeat' (first | exact trivial | exact Nat.le_refl _ | exact Nat.zero_lt_one | refine And.intro ?_ ?_ | decide | omega)) ?_ | refine rett rfl (by repeat' (first | exact trivial | exact Nat.le_refl _ | exact Nat.zero_lt_one | refine And.intro ?_ ?_ | decide | omega)) rfl ?_
  first
    | exact Tells.refl _
    | (refine Tells.le ?_ ?_; exact les; exact leh)
    | (refine Tells.all rfl ?_; exact les)
    | (refine (Tells.thaw (t := 0) rfl rfl (by first | exact Nat.le_refl _ | exact Nat.le_of_eq (Nat.zero_add _) | (simp; omega) | omega)).trans ((Tells.sel [] rfl rfl).trans (Tells.le ?_ .nil)); exact les)
    | (refine (Tells.thaw (t := 1) rfl rfl (by first | exact Nat.le_refl _ | exact Nat.le_of_eq (Nat.zero_add _) | (simp; omega) | omega)).trans ((Tells.sel [] rfl rfl).trans (Tells.le ?_ .nil)); exact les)
    | (refine (Tells.sel [0] rfl rfl).trans (Tells.le ?_ ?_); exact les; exact leh)
    | (refine (Tells.sel [1] rfl rfl).trans (Tells.le ?_ ?_); exact les; exact leh)
    | (refine (Tells.sel [2] rfl rfl).trans (Tells.le ?_ ?_); exact les; exact leh)
    | (refine (Tells.sel [3] rfl rfl).trans (Tells.le ?_ ?_); exact les; exact leh)
    | (refine (Tells.sel [4] rfl rfl).trans (Tells.le ?_ ?_); exact les; exact leh)
    | (refine (Tells.sel [5] rfl rfl).trans (Tells.le ?_ ?_); exact les; exact leh)
    | fail "fin: the answer does not read so") : A := h
/-- A function without loops and calls, to its end. -/
theorem auto {A : Prop} (h : A := by
  try (conv => arg 5; simp only [lst, junkL, setsL, setn, St.put, St.behind, blt0, St.ev, nth, Option.getD, lits, idf_lit4, idf_sl4, idf_ip4, idf_arr4, idf_row4, idf_ptr4, idf_fn4, idf_lit3, idf_sl3, idf_ip3, idf_row3, idf_ptr3, List.all_cons, List.all_nil, Bool.and_true, Bool.true_and, Bool.and_false, Bool.false_and, Bool.or_false, Bool.false_or, Bool.or_true, Bool.true_or, fgo_t, fgo_f, reno_t, reno_f, nbeq, Nat.reduceBEq, Nat.zero_add, Nat.add_zero, List.map_cons, List.map_nil, Int.reduceToNat, Int.toNat_natCast, List.getD_cons_zero, beq_self_eq_true, bne_self_eq_false, Bool.not_true, Bool.not_false, List.drop_zero, List.drop_succ_cons, List.take_succ_cons, List.take_zero, Int.cast_ofNat_Int, cond_true, cond_false, str_toList, str_append, octets_fU8])
  repeat' (first
    | with_reducible refine aw_seq ?_ | with_reducible refine aw_region ?_ | with_reducible refine aw_ret ?_ | with_reducible refine aw_skip ?_ | with_reducible refine then_norm ?_ | with_reducible refine then_ret ?_ | with_reducible refine inb_ret ?_ | with_reducible refine aw_block ?_ | with_reducible refine aw_exit ?_ | with_reducible refine then_exit ?_ | with_reducible refine inb_norm ?_ | with_reducible refine al_nil ?_ | (with_reducible refine ad_endp ?_; conv => arg 5; simp only [dropD, isDraw, cond_true, cond_false])
    | ((with_reducible refine inb_exit_ ?_); first | refine inb_exit rfl ?_ | refine inb_other rfl ?_)
    | ((with_reducible refine aw_cond_ ?_); first | refine aw_cond_t rfl ?_ | refine aw_cond_f rfl ?_)
    | ((with_reducible refine al_cons_ ?_); first
      | (refine al_pure hT rfl rfl (by first | exact True.intro | exact Nat.le_refl _ | rfl | decide | omega | exact ⟨rfl, rfl⟩ | exact ⟨rfl, by omega⟩ | exact isOctets_fU8 _ _ | exact isOctets_cut _ _ _ | (refine Int.le_trans (b := 9000000000000000000) ?_ (by decide); simp only [str_size, List.length_append, List.length_nil]; omega) | (simp only [IntKind.wrap_i64, IntKind.wrap_u64]; omega) | (simp only [cutOk, cutLen, and_true, Int.toNat_natCast, List.length_cons, List.length_append, List.length_nil, List.length_take, IntKind.wrap_i64]; omega)) ?_; conv => arg 6; try simp only [St.put, St.behind, blt0, St.ev, setn, nth, Option.getD, lits, idf_lit4, idf_sl4, idf_ip4, idf_arr4, idf_row4, idf_ptr4, idf_fn4, idf_lit3, idf_sl3, idf_ip3, idf_row3, idf_ptr3, List.all_cons, List.all_nil, Bool.and_true, Bool.true_and, Bool.and_false, Bool.false_and, Bool.or_false, Bool.false_or, Bool.or_true, Bool.true_or, fgo_t, fgo_f, reno_t, reno_f, nbeq, Nat.reduceBEq, Nat.zero_add, Nat.add_zero, List.map_cons, List.map_nil, Int.reduceToNat, Int.toNat_natCast, List.getD_cons_zero, beq_self_eq_true, bne_self_eq_false, Bool.not_true, Bool.not_false, List.drop_zero, List.drop_succ_cons, List.take_succ_cons, List.take_zero, Int.cast_ofNat_Int, cond_true, cond_false, str_toList, str_append, octets_fU8])
      | (refine al_skip rfl ?_; conv => arg 6; try simp only [St.put, setn, nth])
      | (refine al_store hT rfl rfl rfl (by refine ⟨?_, ?_⟩ <;> first | exact Nat.zero_lt_one | exact ⟨rfl, rfl⟩ | exact fun _ => rfl | exact fun h => by cases h | decide | omega | (simp only [IntKind.wrap_i64]; omega) | (simp; omega)) ?_; conv => arg 6; try simp only [splice, St.put, St.behind, blt0, St.ev, setn, nth, Option.getD, lits, idf_lit4, idf_sl4, idf_ip4, idf_arr4, idf_row4, idf_ptr4, idf_fn4, idf_lit3, idf_sl3, idf_ip3, idf_row3, idf_ptr3, List.all_cons, List.all_nil, Bool.and_true, Bool.true_and, Bool.and_false, Bool.false_and, Bool.or_false, Bool.false_or, Bool.or_true, Bool.true_or, fgo_t, fgo_f, reno_t, reno_f, nbeq, Nat.reduceBEq, Nat.zero_add, Nat.add_zero, List.map_cons, List.map_nil, Int.reduceToNat, Int.toNat_natCast, List.getD_cons_zero, beq_self_eq_true, bne_self_eq_false, Bool.not_true, Bool.not_false, List.drop_zero, List.drop_succ_cons, List.take_succ_cons, List.take_zero, Int.cast_ofNat_Int, cond_true, cond_false, str_toList, str_append, octets_fU8, List.nil_append, List.cons_append, List.append_nil, List.length_nil, List.length_cons, Nat.reduceAdd])
      | (refine al_new hT rfl rfl (by first | exact True.intro | omega | decide | exact ⟨rfl, by decide, by decide, by decide⟩) ?_; conv => arg 6; try simp only [St.put, St.behind, blt0, St.ev, setn, nth, Option.getD, lits, idf_lit4, idf_sl4, idf_ip4, idf_arr4, idf_row4, idf_ptr4, idf_fn4, idf_lit3, idf_sl3, idf_ip3, idf_row3, idf_ptr3, List.all_cons, List.all_nil, Bool.and_true, Bool.true_and, Bool.and_false, Bool.false_and, Bool.or_false, Bool.false_or, Bool.or_true, Bool.true_or, fgo_t, fgo_f, reno_t, reno_f, nbeq, Nat.reduceBEq, Nat.zero_add, Nat.add_zero, List.map_cons, List.map_nil, Int.reduceToNat, Int.toNat_natCast, List.getD_cons_zero, beq_self_eq_true, bne_self_eq_false, Bool.not_true, Bool.not_false, List.drop_zero, List.drop_succ_cons, List.take_succ_cons, List.take_zero, Int.cast_ofNat_Int, cond_true, cond_false, str_toList, str_append, octets_fU8, List.nil_append, List.cons_append, List.append_nil, List.length_nil, List.length_cons, Nat.reduceAdd]))
    | ((with_reducible refine ad_cons_ ?_); first
      | (refine ad_pure hT rfl rfl (by first | exact True.intro | exact Nat.le_refl _ | rfl | decide | omega | exact ⟨rfl, rfl⟩ | exact ⟨rfl, by omega⟩ | exact isOctets_fU8 _ _ | exact isOctets_cut _ _ _ | (refine Int.le_trans (b := 9000000000000000000) ?_ (by decide); simp only [str_size, List.length_append, List.length_nil]; omega) | (simp only [IntKind.wrap_i64, IntKind.wrap_u64]; omega) | (simp only [cutOk, cutLen, and_true, Int.toNat_natCast, List.length_cons, List.length_append, List.length_nil, List.length_take, IntKind.wrap_i64]; omega)) ?_; conv => arg 8; try simp only [St.put, St.behind, blt0, St.ev, setn, nth, Option.getD, lits, idf_lit4, idf_sl4, idf_ip4, idf_arr4, idf_row4, idf_ptr4, idf_fn4, idf_lit3, idf_sl3, idf_ip3, idf_row3, idf_ptr3, List.all_cons, List.all_nil, Bool.and_true, Bool.true_and, Bool.and_false, Bool.false_and, Bool.or_false, Bool.false_or, Bool.or_true, Bool.true_or, fgo_t, fgo_f, reno_t, reno_f, nbeq, Nat.reduceBEq, Nat.zero_add, Nat.add_zero, List.map_cons, List.map_nil, Int.reduceToNat, Int.toNat_natCast, List.getD_cons_zero, beq_self_eq_true, bne_self_eq_false, Bool.not_true, Bool.not_false, List.drop_zero, List.drop_succ_cons, List.take_succ_cons, List.take_zero, Int.cast_ofNat_Int, cond_true, cond_false, str_toList, str_append, octets_fU8])
      | (refine ad_skip rfl ?_; conv => arg 8; try simp only [St.put, setn, nth])
      | (refine ad_new hT rfl rfl (by first | exact True.intro | omega) ?_; conv => arg 8; try simp only [St.put, St.behind, blt0, St.ev, setn, nth, Option.getD, lits, idf_lit4, idf_sl4, idf_ip4, idf_arr4, idf_row4, idf_ptr4, idf_fn4, idf_lit3, idf_sl3, idf_ip3, idf_row3, idf_ptr3, List.all_cons, List.all_nil, Bool.and_true, Bool.true_and, Bool.and_false, Bool.false_and, Bool.or_false, Bool.false_or, Bool.or_true, Bool.true_or, fgo_t, fgo_f, reno_t, reno_f, nbeq, Nat.reduceBEq, Nat.zero_add, Nat.add_zero, List.map_cons, List.map_nil, Int.reduceToNat, Int.toNat_natCast, List.getD_cons_zero, beq_self_eq_true, bne_self_eq_false, Bool.not_true, Bool.not_false, List.drop_zero, List.drop_succ_cons, List.take_succ_cons, List.take_zero, Int.cast_ofNat_Int, cond_true, cond_false, str_toList, str_append, octets_fU8, List.nil_append, List.cons_append, List.append_nil, List.length_nil, List.length_cons, Nat.reduceAdd]))
    | ((first | with_reducible refine aw_drawp hmix rfl (by decide +kernel) (by decide +kernel) ?_ | with_reducible refine aw_drawpL hmix rfl (by decide +kernel) (by decide +kernel) ?_); conv => arg 7; simp only [takeD, isDraw, cond_true, cond_false])
    | ((with_reducible refine al_cons_ ?_); (fail_if_success (first | refine al_litt rfl rfl ?_ | refine al_litf rfl rfl ?_)); refine al_if rfl rfl (fun h => ?_) (fun h => ?_) <;> conv => arg 6; simp only [setn])
    | ((with_reducible refine ad_cons_ ?_); (fail_if_success (first | refine ad_litt rfl rfl ?_ | refine ad_litf rfl rfl ?_)); refine ad_if rfl rfl (fun h => ?_) (fun h => ?_) <;> conv => arg 8; simp only [setn])
    | refine aw_if rfl (fun h => ?_) (fun h => ?_))
  all_goals first
    | (exfalso; omega)
    | exact fin
    | (refine je ?_; exact tel)
    | (first | refine ret1 rfl (by repeat' (first | exact trivial | exact Nat.le_refl _ | exact Nat.zero_lt_one | refine And.intro ?_ ?_ | decide | omega)) ?_ | refine rett rfl (by repeat' (first | exact trivial | exact Nat.le_refl _ | exact Nat.zero_lt_one | refine And.intro ?_ ?_ | decide | omega)) rfl ?_
       refine Tells.le ?_ .nil
       repeat (first
         | exact .nil
         | refine .cons (.refl _) ?_
         | refine .cons (AV.Le.nil rfl rfl) ?_
         | refine .cons (.int (by (repeat' split) <;> omega)) ?_
         | refine .cons (AV.Le.bool (by first | rfl | assumption | (simp; done) | (simp; omega) | (simp [*]; done) | (rw [Bool.eq_iff_iff]; simp [*]; done) | (simp [*]; omega))) ?_
         | refine .cons (.eq (by simp; try omega)) ?_))) : A := h
/-- A state that is to be put in plain words. -/
def NZ (A : Prop) : Prop := A
theorem nzz {A : Prop} (h : NZ A) : A := h
theorem nzz_ {A : Prop} (h : A) : NZ A := h
/-- A function without loops, with calls of two functions, to its end. -/
theorem auto2 {A D C D' C' : Prop} (g : D) (c : C) (g' : D') (c' : C') (h : D → C → D' → C' → A := by
  intro g c g' c'
  try (conv => arg 5; simp only [lst, junkL, setsL, setn, St.put, St.behind, blt0, St.ev, nth, Option.getD, lits, idf_lit4, idf_sl4, idf_ip4, idf_arr4, idf_row4, idf_ptr4, idf_fn4, idf_lit3, idf_sl3, idf_ip3, idf_row3, idf_ptr3, List.all_cons, List.all_nil, Bool.and_true, Bool.true_and, Bool.and_false, Bool.false_and, Bool.or_false, Bool.false_or, Bool.or_true, Bool.true_or, fgo_t, fgo_f, reno_t, reno_f, nbeq, Nat.reduceBEq, Nat.zero_add, Nat.add_zero, List.map_cons, List.map_nil, Int.reduceToNat, Int.toNat_natCast, List.getD_cons_zero, beq_self_eq_true, bne_self_eq_false, Bool.not_true, Bool.not_false, List.drop_zero, List.drop_succ_cons, List.take_succ_cons, List.take_zero, Int.cast_ofNat_Int, cond_true, cond_false, str_toList, str_append, octets_fU8])
  repeat' (first
    | with_reducible refine aw_seq ?_ | with_reducible refine aw_region ?_ | with_reducible refine aw_ret ?_ | with_reducible refine aw_skip ?_ | with_reducible refine then_norm ?_ | with_reducible refine then_ret ?_ | with_reducible refine inb_ret ?_ | with_reducible refine aw_block ?_ | with_reducible refine aw_exit ?_ | with_reducible refine then_exit ?_ | with_reducible refine inb_norm ?_ | with_reducible refine al_nil ?_ | (with_reducible refine ad_endp ?_; conv => arg 5; simp only [dropD, isDraw, cond_true, cond_false])
    | ((with_reducible refine inb_exit_ ?_); first | refine inb_exit rfl ?_ | refine inb_other rfl ?_)
    | ((with_reducible refine aw_cond_ ?_); first | refine aw_cond_t rfl ?_ | refine aw_cond_f rfl ?_)
    | ((with_reducible refine al_cons_ ?_); first
      | (refine al_pure hT rfl rfl (by first | exact True.intro | exact Nat.le_refl _ | rfl | decide | omega | exact ⟨rfl, rfl⟩ | exact ⟨rfl, by omega⟩ | exact isOctets_fU8 _ _ | exact isOctets_cut _ _ _ | (refine Int.le_trans (b := 9000000000000000000) ?_ (by decide); simp only [str_size, List.length_append, List.length_nil]; omega) | (simp only [IntKind.wrap_i64, IntKind.wrap_u64]; omega) | (simp only [cutOk, cutLen, and_true, Int.toNat_natCast, List.length_cons, List.length_append, List.length_nil, List.length_take, IntKind.wrap_i64]; omega)) ?_; conv => arg 6; try simp only [St.put, St.behind, blt0, St.ev, setn, nth, Option.getD, lits, idf_lit4, idf_sl4, idf_ip4, idf_arr4, idf_row4, idf_ptr4, idf_fn4, idf_lit3, idf_sl3, idf_ip3, idf_row3, idf_ptr3, List.all_cons, List.all_nil, Bool.and_true, Bool.true_and, Bool.and_false, Bool.false_and, Bool.or_false, Bool.false_or, Bool.or_true, Bool.true_or, fgo_t, fgo_f, reno_t, reno_f, nbeq, Nat.reduceBEq, Nat.zero_add, Nat.add_zero, List.map_cons, List.map_nil, Int.reduceToNat, Int.toNat_natCast, List.getD_cons_zero, beq_self_eq_true, bne_self_eq_false, Bool.not_true, Bool.not_false, List.drop_zero, List.drop_succ_cons, List.take_succ_cons, List.take_zero, Int.cast_ofNat_Int, cond_true, cond_false, str_toList, str_append, octets_fU8])
      | (refine al_skip rfl ?_; conv => arg 6; try simp only [St.put, setn, nth])
      | (refine al_store hT rfl rfl rfl (by refine ⟨?_, ?_⟩ <;> first | exact Nat.zero_lt_one | exact ⟨rfl, rfl⟩ | exact fun _ => rfl | exact fun h => by cases h | decide | omega | (simp only [IntKind.wrap_i64]; omega) | (simp; omega)) ?_; conv => arg 6; try simp only [splice, St.put, St.behind, blt0, St.ev, setn, nth, Option.getD, lits, idf_lit4, idf_sl4, idf_ip4, idf_arr4, idf_row4, idf_ptr4, idf_fn4, idf_lit3, idf_sl3, idf_ip3, idf_row3, idf_ptr3, List.all_cons, List.all_nil, Bool.and_true, Bool.true_and, Bool.and_false, Bool.false_and, Bool.or_false, Bool.false_or, Bool.or_true, Bool.true_or, fgo_t, fgo_f, reno_t, reno_f, nbeq, Nat.reduceBEq, Nat.zero_add, Nat.add_zero, List.map_cons, List.map_nil, Int.reduceToNat, Int.toNat_natCast, List.getD_cons_zero, beq_self_eq_true, bne_self_eq_false, Bool.not_true, Bool.not_false, List.drop_zero, List.drop_succ_cons, List.take_succ_cons, List.take_zero, Int.cast_ofNat_Int, cond_true, cond_false, str_toList, str_append, octets_fU8, List.nil_append, List.cons_append, List.append_nil, List.length_nil, List.length_cons, Nat.reduceAdd])
      | (refine al_new hT rfl rfl (by first | exact True.intro | omega | decide | exact ⟨rfl, by decide, by decide, by decide⟩) ?_; conv => arg 6; try simp only [St.put, St.behind, blt0, St.ev, setn, nth, Option.getD, lits, idf_lit4, idf_sl4, idf_ip4, idf_arr4, idf_row4, idf_ptr4, idf_fn4, idf_lit3, idf_sl3, idf_ip3, idf_row3, idf_ptr3, List.all_cons, List.all_nil, Bool.and_true, Bool.true_and, Bool.and_false, Bool.false_and, Bool.or_false, Bool.false_or, Bool.or_true, Bool.true_or, fgo_t, fgo_f, reno_t, reno_f, nbeq, Nat.reduceBEq, Nat.zero_add, Nat.add_zero, List.map_cons, List.map_nil, Int.reduceToNat, Int.toNat_natCast, List.getD_cons_zero, beq_self_eq_true, bne_self_eq_false, Bool.not_true, Bool.not_false, List.drop_zero, List.drop_succ_cons, List.take_succ_cons, List.take_zero, Int.cast_ofNat_Int, cond_true, cond_false, str_toList, str_append, octets_fU8, List.nil_append, List.cons_append, List.append_nil, List.length_nil, List.length_cons, Nat.reduceAdd]))
    | ((with_reducible refine ad_cons_ ?_); first
      | (refine ad_pure hT rfl rfl (by first | exact True.intro | exact Nat.le_refl _ | rfl | decide | omega | exact ⟨rfl, rfl⟩ | exact ⟨rfl, by omega⟩ | exact isOctets_fU8 _ _ | exact isOctets_cut _ _ _ | (refine Int.le_trans (b := 9000000000000000000) ?_ (by decide); simp only [str_size, List.length_append, List.length_nil]; omega) | (simp only [IntKind.wrap_i64, IntKind.wrap_u64]; omega) | (simp only [cutOk, cutLen, and_true, Int.toNat_natCast, List.length_cons, List.length_append, List.length_nil, List.length_take, IntKind.wrap_i64]; omega)) ?_; conv => arg 8; try simp only [St.put, St.behind, blt0, St.ev, setn, nth, Option.getD, lits, idf_lit4, idf_sl4, idf_ip4, idf_arr4, idf_row4, idf_ptr4, idf_fn4, idf_lit3, idf_sl3, idf_ip3, idf_row3, idf_ptr3, List.all_cons, List.all_nil, Bool.and_true, Bool.true_and, Bool.and_false, Bool.false_and, Bool.or_false, Bool.false_or, Bool.or_true, Bool.true_or, fgo_t, fgo_f, reno_t, reno_f, nbeq, Nat.reduceBEq, Nat.zero_add, Nat.add_zero, List.map_cons, List.map_nil, Int.reduceToNat, Int.toNat_natCast, List.getD_cons_zero, beq_self_eq_true, bne_self_eq_false, Bool.not_true, Bool.not_false, List.drop_zero, List.drop_succ_cons, List.take_succ_cons, List.take_zero, Int.cast_ofNat_Int, cond_true, cond_false, str_toList, str_append, octets_fU8])
      | (refine ad_skip rfl ?_; conv => arg 8; try simp only [St.put, setn, nth])
      | (refine ad_new hT rfl rfl (by first | exact True.intro | omega) ?_; conv => arg 8; try simp only [St.put, St.behind, blt0, St.ev, setn, nth, Option.getD, lits, idf_lit4, idf_sl4, idf_ip4, idf_arr4, idf_row4, idf_ptr4, idf_fn4, idf_lit3, idf_sl3, idf_ip3, idf_row3, idf_ptr3, List.all_cons, List.all_nil, Bool.and_true, Bool.true_and, Bool.and_false, Bool.false_and, Bool.or_false, Bool.false_or, Bool.or_true, Bool.true_or, fgo_t, fgo_f, reno_t, reno_f, nbeq, Nat.reduceBEq, Nat.zero_add, Nat.add_zero, List.map_cons, List.map_nil, Int.reduceToNat, Int.toNat_natCast, List.getD_cons_zero, beq_self_eq_true, bne_self_eq_false, Bool.not_true, Bool.not_false, List.drop_zero, List.drop_succ_cons, List.take_succ_cons, List.take_zero, Int.cast_ofNat_Int, cond_true, cond_false, str_toList, str_append, octets_fU8, List.nil_append, List.cons_append, List.append_nil, List.length_nil, List.length_cons, Nat.reduceAdd]))
    | ((first | with_reducible refine aw_drawp hmix rfl (by decide +kernel) (by decide +kernel) ?_ | with_reducible refine aw_drawpL hmix rfl (by decide +kernel) (by decide +kernel) ?_); conv => arg 7; simp only [takeD, isDraw, cond_true, cond_false])
    | (first | refine' al_pcl rfl rfl rfl g rfl ?_ (c _) ?_ (nzz ?_) | refine' al_pcl rfl rfl rfl g rfl ?_ (c _ _) ?_ (nzz ?_) | refine' al_pcl rfl rfl rfl g rfl ?_ (c _ _ _) ?_ (nzz ?_))
    | (first | refine' al_pcl rfl rfl rfl g' rfl ?_ (c' _) ?_ (nzz ?_) | refine' al_pcl rfl rfl rfl g' rfl ?_ (c' _ _) ?_ (nzz ?_) | refine' al_pcl rfl rfl rfl g' rfl ?_ (c' _ _ _) ?_ (nzz ?_))
    | ((with_reducible refine al_cons_ ?_); (fail_if_success (first | refine al_litt rfl rfl ?_ | refine al_litf rfl rfl ?_)); refine al_if rfl rfl (fun h => ?_) (fun h => ?_) <;> conv => arg 6; simp only [setn])
    | ((with_reducible refine ad_cons_ ?_); (fail_if_success (first | refine ad_litt rfl rfl ?_ | refine ad_litf rfl rfl ?_)); refine ad_if rfl rfl (fun h => ?_) (fun h => ?_) <;> conv => arg 8; simp only [setn])
    | (with_reducible refine nzz_ ?_; conv => arg 6; try simp only [St.put, St.behind, blt0, St.ev, setn, nth, Option.getD, List.map, forget, fgs, ren, sh, reno_t, reno_f, share, nbeq, Nat.reduceBEq, Bool.or_false, Bool.false_or, Bool.or_true, Bool.true_or, List.any_nil, List.any_cons, List.nil_append, List.cons_append, List.append_nil, List.length_nil, List.length_cons, Nat.reduceAdd])
    | ((with_reducible refine LeS.id ?_); exact les)
    | refine aw_if rfl (fun h => ?_) (fun h => ?_)
    | exact trivial
    | exact Nat.le_refl _
    | exact Nat.le_of_eq (Nat.zero_add _)
    | refine And.intro ?_ ?_)
  all_goals first
    | (exfalso; omega)
    | exact fin
    | (refine je ?_; exact tel)
    | (first | refine ret1 rfl (by repeat' (first | exact trivial | exact Nat.le_refl _ | exact Nat.zero_lt_one | refine And.intro ?_ ?_ | decide | omega)) ?_ | refine rett rfl (by repeat' (first | exact trivial | exact Nat.le_refl _ | exact Nat.zero_lt_one | refine And.intro ?_ ?_ | decide | omega)) rfl ?_
       refine Tells.le ?_ .nil
       repeat (first
         | exact .nil
         | refine .cons (.refl _) ?_
         | refine .cons (AV.Le.nil rfl rfl) ?_
         | refine .cons (.int (by (repeat' split) <;> omega)) ?_
         | refine .cons (AV.Le.bool (by first | rfl | assumption | (simp; done) | (simp; omega) | (simp [*]; done) | (rw [Bool.eq_iff_iff]; simp [*]; done) | (simp [*]; omega))) ?_
         | refine .cons (.eq (by simp; try omega)) ?_))) : A := h g c g' c'
/-- A small region that draws its order, to the function's end: each order by itself. -/
theorem ordfin {A : Prop} (h : A := by
  refine aw_orders hmix rfl ?_
  repeat' (first
    | with_reducible refine then_ao ?_
    | (with_reducible refine ao_end (by decide +kernel) ?_)
    | (refine ao_node (by decide +kernel) ?_)
    | (refine ev_skip (by decide +kernel) ?_)
    | (refine ev_take ?_ ?_)
    | exact ev_nil
    | with_reducible refine aw_seq ?_ | with_reducible refine aw_region ?_ | with_reducible refine aw_ret ?_ | with_reducible refine aw_skip ?_ | with_reducible refine then_norm ?_ | with_reducible refine then_ret ?_ | with_reducible refine inb_ret ?_ | with_reducible refine aw_block ?_ | with_reducible refine aw_exit ?_ | with_reducible refine then_exit ?_ | with_reducible refine inb_norm ?_ | with_reducible refine al_nil ?_ | (with_reducible refine ad_endp ?_; conv => arg 5; simp only [dropD, isDraw, cond_true, cond_false])
    | ((with_reducible refine inb_exit_ ?_); first | refine inb_exit rfl ?_ | refine inb_other rfl ?_)
    | ((with_reducible refine aw_cond_ ?_); first | refine aw_cond_t rfl ?_ | refine aw_cond_f rfl ?_)
    | ((with_reducible refine al_cons_ ?_); first
      | (refine al_pure hT rfl rfl (by first | exact True.intro | exact Nat.le_refl _ | rfl | decide | omega | exact ⟨rfl, rfl⟩ | exact ⟨rfl, by omega⟩ | exact isOctets_fU8 _ _ | exact isOctets_cut _ _ _ | (refine Int.le_trans (b := 9000000000000000000) ?_ (by decide); simp only [str_size, List.length_append, List.length_nil]; omega) | (simp only [IntKind.wrap_i64, IntKind.wrap_u64]; omega) | (simp only [cutOk, cutLen, and_true, Int.toNat_natCast, List.length_cons, List.length_append, List.length_nil, List.length_take, IntKind.wrap_i64]; omega)) ?_; conv => arg 6; try simp only [St.put, St.behind, blt0, St.ev, setn, nth, Option.getD, lits, idf_lit4, idf_sl4, idf_ip4, idf_arr4, idf_row4, idf_ptr4, idf_fn4, idf_lit3, idf_sl3, idf_ip3, idf_row3, idf_ptr3, List.all_cons, List.all_nil, Bool.and_true, Bool.true_and, Bool.and_false, Bool.false_and, Bool.or_false, Bool.false_or, Bool.or_true, Bool.true_or, fgo_t, fgo_f, reno_t, reno_f, nbeq, Nat.reduceBEq, Nat.zero_add, Nat.add_zero, List.map_cons, List.map_nil, Int.reduceToNat, Int.toNat_natCast, List.getD_cons_zero, beq_self_eq_true, bne_self_eq_false, Bool.not_true, Bool.not_false, List.drop_zero, List.drop_succ_cons, List.take_succ_cons, List.take_zero, Int.cast_ofNat_Int, cond_true, cond_false, str_toList, str_append, octets_fU8])
      | (refine al_skip rfl ?_; conv => arg 6; try simp only [St.put, setn, nth])
      | (refine al_store hT rfl rfl rfl (by refine ⟨?_, ?_⟩ <;> first | exact Nat.zero_lt_one | exact ⟨rfl, rfl⟩ | exact fun _ => rfl | exact fun h => by cases h | decide | omega | (simp only [IntKind.wrap_i64]; omega) | (simp; omega)) ?_; conv => arg 6; try simp only [splice, St.put, St.behind, blt0, St.ev, setn, nth, Option.getD, lits, idf_lit4, idf_sl4, idf_ip4, idf_arr4, idf_row4, idf_ptr4, idf_fn4, idf_lit3, idf_sl3, idf_ip3, idf_row3, idf_ptr3, List.all_cons, List.all_nil, Bool.and_true, Bool.true_and, Bool.and_false, Bool.false_and, Bool.or_false, Bool.false_or, Bool.or_true, Bool.true_or, fgo_t, fgo_f, reno_t, reno_f, nbeq, Nat.reduceBEq, Nat.zero_add, Nat.add_zero, List.map_cons, List.map_nil, Int.reduceToNat, Int.toNat_natCast, List.getD_cons_zero, beq_self_eq_true, bne_self_eq_false, Bool.not_true, Bool.not_false, List.drop_zero, List.drop_succ_cons, List.take_succ_cons, List.take_zero, Int.cast_ofNat_Int, cond_true, cond_false, str_toList, str_append, octets_fU8, List.nil_append, List.cons_append, List.append_nil, List.length_nil, List.length_cons, Nat.reduceAdd])
      | (refine al_new hT rfl rfl (by first | exact True.intro | omega | decide | exact ⟨rfl, by decide, by decide, by decide⟩) ?_; conv => arg 6; try simp only [St.put, St.behind, blt0, St.ev, setn, nth, Option.getD, lits, idf_lit4, idf_sl4, idf_ip4, idf_arr4, idf_row4, idf_ptr4, idf_fn4, idf_lit3, idf_sl3, idf_ip3, idf_row3, idf_ptr3, List.all_cons, List.all_nil, Bool.and_true, Bool.true_and, Bool.and_false, Bool.false_and, Bool.or_false, Bool.false_or, Bool.or_true, Bool.true_or, fgo_t, fgo_f, reno_t, reno_f, nbeq, Nat.reduceBEq, Nat.zero_add, Nat.add_zero, List.map_cons, List.map_nil, Int.reduceToNat, Int.toNat_natCast, List.getD_cons_zero, beq_self_eq_true, bne_self_eq_false, Bool.not_true, Bool.not_false, List.drop_zero, List.drop_succ_cons, List.take_succ_cons, List.take_zero, Int.cast_ofNat_Int, cond_true, cond_false, str_toList, str_append, octets_fU8, List.nil_append, List.cons_append, List.append_nil, List.length_nil, List.length_cons, Nat.reduceAdd]))
    | ((with_reducible refine ad_cons_ ?_); first
      | (refine ad_pure hT rfl rfl (by first | exact True.intro | exact Nat.le_refl _ | rfl | decide | omega | exact ⟨rfl, rfl⟩ | exact ⟨rfl, by omega⟩ | exact isOctets_fU8 _ _ | exact isOctets_cut _ _ _ | (refine Int.le_trans (b := 9000000000000000000) ?_ (by decide); simp only [str_size, List.length_append, List.length_nil]; omega) | (simp only [IntKind.wrap_i64, IntKind.wrap_u64]; omega) | (simp only [cutOk, cutLen, and_true, Int.toNat_natCast, List.length_cons, List.length_append, List.length_nil, List.length_take, IntKind.wrap_i64]; omega)) ?_; conv => arg 8; try simp only [St.put, St.behind, blt0, St.ev, setn, nth, Option.getD, lits, idf_lit4, idf_sl4, idf_ip4, idf_arr4, idf_row4, idf_ptr4, idf_fn4, idf_lit3, idf_sl3, idf_ip3, idf_row3, idf_ptr3, List.all_cons, List.all_nil, Bool.and_true, Bool.true_and, Bool.and_false, Bool.false_and, Bool.or_false, Bool.false_or, Bool.or_true, Bool.true_or, fgo_t, fgo_f, reno_t, reno_f, nbeq, Nat.reduceBEq, Nat.zero_add, Nat.add_zero, List.map_cons, List.map_nil, Int.reduceToNat, Int.toNat_natCast, List.getD_cons_zero, beq_self_eq_true, bne_self_eq_false, Bool.not_true, Bool.not_false, List.drop_zero, List.drop_succ_cons, List.take_succ_cons, List.take_zero, Int.cast_ofNat_Int, cond_true, cond_false, str_toList, str_append, octets_fU8])
      | (refine ad_skip rfl ?_; conv => arg 8; try simp only [St.put, setn, nth])
      | (refine ad_new hT rfl rfl (by first | exact True.intro | omega) ?_; conv => arg 8; try simp only [St.put, St.behind, blt0, St.ev, setn, nth, Option.getD, lits, idf_lit4, idf_sl4, idf_ip4, idf_arr4, idf_row4, idf_ptr4, idf_fn4, idf_lit3, idf_sl3, idf_ip3, idf_row3, idf_ptr3, List.all_cons, List.all_nil, Bool.and_true, Bool.true_and, Bool.and_false, Bool.false_and, Bool.or_false, Bool.false_or, Bool.or_true, Bool.true_or, fgo_t, fgo_f, reno_t, reno_f, nbeq, Nat.reduceBEq, Nat.zero_add, Nat.add_zero, List.map_cons, List.map_nil, Int.reduceToNat, Int.toNat_natCast, List.getD_cons_zero, beq_self_eq_true, bne_self_eq_false, Bool.not_true, Bool.not_false, List.drop_zero, List.drop_succ_cons, List.take_succ_cons, List.take_zero, Int.cast_ofNat_Int, cond_true, cond_false, str_toList, str_append, octets_fU8, List.nil_append, List.cons_append, List.append_nil, List.length_nil, List.length_cons, Nat.reduceAdd]))
    | ((first | with_reducible refine aw_drawp hmix rfl (by decide +kernel) (by decide +kernel) ?_ | with_reducible refine aw_drawpL hmix rfl (by decide +kernel) (by decide +kernel) ?_); conv => arg 7; simp only [takeD, isDraw, cond_true, cond_false]))
  all_goals exact fin) : A := h
end
end Go.Proofs.YthdckgcalooipaaDoor
namespace Go.Proofs.YthdckgcalooipaaDoor
section
open Go.RowKit
attribute [local irreducible] EachR AO IterP RoundP ADr AL AW Then InBlock RetP Tells APure ACall
set_option linter.unusedVariables false
set_option linter.unusedSimpArgs false
set_option maxRecDepth 100000
def eU32 (x : UInt32) : List AV := [.lit (.int .u32 (wv x))]
def fU32 (l : List UInt32) : Nat → List AV := fun k => eU32 (l.getD k 0)
abbrev w8A (l : List UInt32) : AV := .arr 1 8 (fU32 l)
abbrev w64A (l : List UInt32) : AV := .arr 1 64 (fU32 l)
abbrev b64A (b : List UInt8) : AV := .arr 1 64 (fU8 b)
/-- Eight words, cell by cell. -/
abbrev w8C (l : List UInt32) : List AV := [.lit (.int .u32 (wv (l.getD 0 0))), .lit (.int .u32 (wv (l.getD 1 0))), .lit (.int .u32 (wv (l.getD 2 0))), .lit (.int .u32 (wv (l.getD 3 0))), .lit (.int .u32 (wv (l.getD 4 0))), .lit (.int .u32 (wv (l.getD 5 0))), .lit (.int .u32 (wv (l.getD 6 0))), .lit (.int .u32 (wv (l.getD 7 0)))]
theorem arr_num {O : Nat → Prop} {w : World} {μ : Mu} {n : Nat} {f : Nat → List AV} {v : Value} (g : Nat → Value) (hg : ∀ k, k < n → f k = [.lit (g k)]) (h : RV O w μ (.arr 1 n f) v) : v = .agg ((List.range n).map g).toArray := by
  cases h with
  | arr ho h1 h2 h3 =>
    rename_i vs
    congr 2
    apply List.ext_getElem
    · simp [h1]
    · intro k hk hk'
      simp at hk'
      have := h3 k 0 _ _ hk' (by rw [hg k hk']; rfl) (List.getElem?_eq_getElem (by omega))
      have e : vs[k * 1 + 0] = g k := this.lit_eq
      simp only [Nat.mul_one, Nat.add_zero] at e
      simp [e]
theorem num_arr {O : Nat → Prop} {w : World} {μ : Mu} {n : Nat} {f : Nat → List AV} {vs : List Value} (hl : vs.length = n) (h1 : ∀ u ∈ vs, u.oneCell' = true) (hg : ∀ k u, vs[k]? = some u → f k = [.lit u]) : RV O w μ (.arr 1 n f) (.agg vs.toArray) := by
  refine .arr h1 (by simp [hl]) (fun k hk => by rw [hg k _ (List.getElem?_eq_getElem (by omega))]; rfl) fun k j a v hk ha hv => ?_
  rw [hg k _ (List.getElem?_eq_getElem (by omega))] at ha
  cases j with
  | zero =>
    simp at ha hv
    subst ha
    rw [List.getElem?_eq_getElem (by omega)] at hv
    injection hv with hv; subst hv
    exact .lit _
  | succ j => simp at ha
theorem u32s_arr {O : Nat → Prop} {w : World} {μ : Mu} {n : Nat} {l : List UInt32} (hl : l.length = n) : RV O w μ (.arr 1 n (fU32 l)) (.agg (u32s l)) := by
  unfold u32s
  refine num_arr (by simp [hl]) (fun u hu => ?_) fun k u hu => ?_
  · obtain ⟨x, _, rfl⟩ := List.mem_map.1 hu; rfl
  · simp only [List.getElem?_map, Option.map_eq_some_iff] at hu
    obtain ⟨x, hx, rfl⟩ := hu
    simp [fU32, eU32, List.getD_eq_getElem?_getD, hx]
theorem arr_u32s {O : Nat → Prop} {w : World} {μ : Mu} {n : Nat} {l : List UInt32} (hl : l.length = n) {v : Value} (h : RV O w μ (.arr 1 n (fU32 l)) v) : v = .agg (u32s l) := by
  rw [arr_num (fun k => .int .u32 (wv (l.getD k 0))) (fun k _ => rfl) h]
  unfold u32s
  congr 2
  apply List.ext_getElem
  · simp [hl]
  · intro k h1 h2; simp at h1 h2; simp [List.getD_eq_getElem?_getD, h2]
theorem arr_b8s {O : Nat → Prop} {w : World} {μ : Mu} {n : Nat} {l : List UInt8} (hl : l.length = n) {v : Value} (h : RV O w μ (.arr 1 n (fU8 l)) v) : v = .agg (b8s l) := by
  rw [arr_num (fun k => .int .u8 (l.getD k 0).toNat) (fun k _ => rfl) h]
  unfold b8s
  congr 2
  apply List.ext_getElem
  · simp [hl]
  · intro k h1 h2; simp at h1 h2; simp [List.getD_eq_getElem?_getD, h2]
theorem tabB_of {X : Nat → Prop} {μ : Mu} {w : World} (h : GlobOk X μ w) : TabB w := by
  obtain ⟨h1, _, _, h4⟩ := h 0 _ (by unfold globs; exact List.mem_singleton.2 rfl)
  exact ⟨h1, fun j v hv => h4 j v (by simpa [u32s] using hv)⟩
theorem glob_of {w : World} (h : TabB w) : GlobOk (fun _ => False) noMu w := fun g cs hg => by
  unfold globs at hg
  obtain ⟨rfl, rfl⟩ := Prod.mk.inj (List.mem_singleton.1 hg)
  exact ⟨h.1, fun h => h, fun i m h => (by cases h), fun j u hu => h.2 j u (by simpa [u32s] using hu)⟩
/-- A contract in the world's words. -/
theorem apure_calls {P : Program} {f : FuncId} {args : List AV} {r : AV} (vs : List Value) (v : Value) (ha : ∀ (O : Nat → Prop) (w : World) (μ : Mu) (us : List Value), RVs O w μ args us → us = vs) (hr : ∀ (O : Nat → Prop) (w : World), RV O w noMu r v)
    (h : ∀ (X : Nat → Prop) (μ : Mu) w, GlobOk X μ w → Calls P f vs.toArray w fun e w' => e = .returned v ∧ Below w.heap.size w w') : APure P f args r [] := by
  unfold APure ACall
  intro w X μ us hH hv
  obtain rfl := ha _ _ _ _ hv
  refine (h X μ w hH.gl).mono fun e w' ⟨he, hb⟩ => ⟨v, r, [], [], μ, he, ⟨rfl, rfl⟩, hH.below hb, (hr _ _).up, Chg.of_below hb, Ext.refl _ _, Nat.le_refl _, fun k x u _ hx => hx.later hb⟩
theorem rvs1 {O : Nat → Prop} {w : World} {μ : Mu} {a : AV} {v : Value} (h : ∀ u, RV O w μ a u → u = v) {us : List Value} (hv : RVs O w μ [a] us) : us = [v] := by
  obtain ⟨u, us', rfl, h1, h2⟩ := hv.uncons
  rw [h2.unnil, h u h1]
theorem rvs2 {O : Nat → Prop} {w : World} {μ : Mu} {a b : AV} {v u : Value} (h : ∀ u, RV O w μ a u → u = v) (h' : ∀ x, RV O w μ b x → x = u) {us : List Value} (hv : RVs O w μ [a, b] us) : us = [v, u] := by
  obtain ⟨u1, us', rfl, h1, h2⟩ := hv.uncons
  rw [rvs1 h' h2, h u1 h1]
theorem mix_len (h : List UInt32) (b : List UInt8) (hh : h.length = 8) : (mix h b).length = 8 := by simp [mix, BSt.list, hh]
theorem bmix_p (h : List UInt32) (b : List UInt8) (hh : h.length = 8) (hb : b.length = 64) : APure Tryd.prog 22 [w8A h, b64A b] (w8A (mix h b)) [] :=
  apure_calls [.agg (u32s h), .agg (b8s b)] _ (fun O w μ us => rvs2 (fun u => arr_u32s hh) fun u => arr_b8s hb) (fun O w => u32s_arr (mix_len h b hh)) fun X μ w hg => mix_calls h b hh hb w (tabB_of hg)
theorem goBMix : GoFn Tryd.prog 22 := ⟨_, _, Tryd.func22, by kernel_rfl, rfl⟩
theorem bfirst_p : APure Tryd.prog 21 [] (w8A firsts) [] := apure_calls [] _ (fun O w μ us h => h.unnil) (fun O w => u32s_arr rfl) fun X μ w _ => first_calls w
theorem goBFirst : GoFn Tryd.prog 21 := ⟨_, _, Tryd.func21, by kernel_rfl, rfl⟩
theorem bspread_p (b : List UInt8) (hb : b.length = 64) : APure Tryd.prog 30 [b64A b] (w64A (spread b)) [] :=
  apure_calls [.agg (b8s b)] _ (fun O w μ us => rvs1 fun u => arr_b8s hb) (fun O w => u32s_arr (rounds_len b)) fun X μ w hg => spread_calls b hb w
theorem goBSpread : GoFn Tryd.prog 30 := ⟨_, _, Tryd.func30, by kernel_rfl, rfl⟩
theorem rbmix_p (h : List UInt32) (b : List UInt8) (hh : h.length = 8) (hb : b.length = 64) : APure Tryd.prog 29 [w8A h, b64A b] (w8A (mix h b)) [] :=
  apure_calls [.agg (u32s h), .agg (b8s b)] _ (fun O w μ us => rvs2 (fun u => arr_u32s hh) fun u => arr_b8s hb) (fun O w => u32s_arr (mix_len h b hh)) fun X μ w hg => rmix_calls h b hh hb w
theorem goRBMix : GoFn Tryd.prog 29 := ⟨_, _, Tryd.func29, by kernel_rfl, rfl⟩
theorem rbfirst_p : APure Tryd.prog 23 [] (w8A firsts) [] := apure_calls [] _ (fun O w μ us h => h.unnil) (fun O w => u32s_arr rfl) fun X μ w _ => rfirst_calls w
theorem goRBFirst : GoFn Tryd.prog 23 := ⟨_, _, Tryd.func23, by kernel_rfl, rfl⟩
/-- Words, as an array and cell by cell. -/
theorem leW8 (l : List UInt32) : AV.Le (w8A l) (.agg (w8C l)) := fun O w μ v h => by
  rw [arr_num (fun k => .int .u32 (wv (l.getD k 0))) (fun k _ => rfl) h]
  exact .agg rfl fun j a v ha hv => by
    match j, ha, hv with
    | 0, ha, hv | 1, ha, hv | 2, ha, hv | 3, ha, hv | 4, ha, hv | 5, ha, hv | 6, ha, hv | 7, ha, hv =>
      simp [List.range_succ] at ha hv
      subst ha hv
      exact .lit _
    | j + 8, ha, hv => simp at ha
theorem leC8 (l : List UInt32) : AV.Le (.agg (w8C l)) (w8A l) := fun O w μ v h => by
  cases h with
  | agg h1 h2 =>
    rename_i vs
    match vs, h1, h2 with
    | [v0, v1, v2, v3, v4, v5, v6, v7], _, h2 =>
      obtain rfl := (h2 0 _ _ rfl rfl).lit_eq
      obtain rfl := (h2 1 _ _ rfl rfl).lit_eq
      obtain rfl := (h2 2 _ _ rfl rfl).lit_eq
      obtain rfl := (h2 3 _ _ rfl rfl).lit_eq
      obtain rfl := (h2 4 _ _ rfl rfl).lit_eq
      obtain rfl := (h2 5 _ _ rfl rfl).lit_eq
      obtain rfl := (h2 6 _ _ rfl rfl).lit_eq
      obtain rfl := (h2 7 _ _ rfl rfl).lit_eq
      refine num_arr rfl (fun u hu => ?_) fun k u hu => ?_
      · simp only [List.mem_cons, List.not_mem_nil, or_false] at hu
        rcases hu with rfl | rfl | rfl | rfl | rfl | rfl | rfl | rfl <;> rfl
      · match k, hu with
        | 0, hu | 1, hu | 2, hu | 3, hu | 4, hu | 5, hu | 6, hu | 7, hu => simp at hu; subst hu; rfl
        | k + 8, hu => simp at hu
/-- Sixty-four octets of a slice, as an array. -/
theorem leTake {b : List UInt8} : AV.Le (.agg ((((List.range 64).map (fU8 b)).flatten).take 64)) (b64A b) := fun O w μ v hv => by
  have e : ((((List.range 64).map (fU8 b)).flatten).take 64) = (List.range 64).map fun k => .lit (.int .u8 (b.getD k 0).toNat) := by rfl
  rw [e] at hv
  cases hv with
  | agg h1 h2 =>
    rename_i vs
    simp at h1
    refine num_arr h1.symm (fun u hu => ?_) fun k u hu => ?_
    · obtain ⟨k, hk⟩ := List.getElem?_of_mem hu
      have hlt : k < 64 := by have := (List.getElem?_eq_some_iff.1 hk).1; omega
      have := (h2 k _ u (by simp [hlt]; rfl) hk).lit_eq
      subst this; rfl
    · have hlt : k < 64 := by have := (List.getElem?_eq_some_iff.1 hu).1; omega
      have := (h2 k _ u (by simp [hlt]; rfl) hu).lit_eq
      subst this
      rfl
end
end Go.Proofs.YthdckgcalooipaaDoor
namespace Go.Proofs.YthdckgcalooipaaDoor
section
open Go.RowKit
set_option linter.unusedVariables false
set_option linter.unusedSimpArgs false
theorem b8s_arr {O : Nat → Prop} {w : World} {μ : Mu} {n : Nat} {l : List UInt8} (hl : l.length = n) : RV O w μ (.arr 1 n (fU8 l)) (.agg (b8s l)) := by
  unfold b8s
  refine num_arr (by simp [hl]) (fun u hu => ?_) fun k u hu => ?_
  · obtain ⟨x, _, rfl⟩ := List.mem_map.1 hu; rfl
  · simp only [List.getElem?_map, Option.map_eq_some_iff] at hu
    obtain ⟨x, hx, rfl⟩ := hu
    simp [fU8, eU8, List.getD_eq_getElem?_getD, hx]
theorem u8_of_wf {n : Int} (h : (Lit.int .u8 n).wf = true) : ∃ y : UInt8, n = (y.toNat : Int) := by
  refine ⟨UInt8.ofNat n.toNat, ?_⟩
  simp [Lit.wf, IntKind.min, IntKind.max, IntKind.signed, IntKind.bits] at h
  rw [UInt8.toNat_ofNat']; omega
theorem mask255 (q : Nat) : IntKind.u32.wrap ((BitVec.ofInt IntKind.u32.bits (q : Int) &&& BitVec.ofInt IntKind.u32.bits 255).toNat : Int) = ((q % 256 : Nat) : Int) := by
  have e2 : (BitVec.ofInt IntKind.u32.bits 255).toNat = 2 ^ 8 - 1 := rfl
  rw [BitVec.toNat_and, e2, Nat.and_two_pow_sub_one_eq_mod, BitVec.ofInt_natCast, BitVec.toNat_ofNat, IntKind.wrap_u32]
  have : q % 2 ^ IntKind.u32.bits % 2 ^ 8 = q % 256 := Nat.mod_mod_of_dvd q (Nat.pow_dvd_pow 2 (show 8 ≤ 32 by decide))
  rw [this]; omega
theorem isInts_u32 (n : Nat) (l : List UInt32) : isInts .u32 n (fU32 l) := fun k _ => ⟨_, rfl⟩
theorem isInts_u8 (n : Nat) (l : List UInt8) : isInts .u8 n (fU8 l) := fun k _ => ⟨_, rfl⟩
theorem arrEq_refl (n : Nat) (f : Nat → List AV) : arrEq n f f = true := decide_eq_true fun _ _ => rfl
theorem arrEq_u32 {n : Nat} {a b : List UInt32} (ha : a.length = n) (hb : b.length = n) : arrEq n (fU32 a) (fU32 b) = (a == b) := by
  rw [Bool.eq_iff_iff, beq_iff_eq]
  unfold arrEq
  rw [decide_eq_true_iff]
  constructor
  · intro h
    apply List.ext_getElem (by omega)
    intro k h1 h2
    have := wv_inj (show wv (a.getD k 0) = wv (b.getD k 0) from h k (by omega))
    simpa [List.getD_eq_getElem?_getD, h1, h2] using this
  · rintro rfl k _; rfl
end
end Go.Proofs.YthdckgcalooipaaDoor
namespace Go.Proofs.YthdckgcalooipaaDoor
section
open Go.RowKit
attribute [local irreducible] EachR AO IterP RoundP ADr AL AW Then InBlock RetP Tells APure ACall
set_option linter.unusedVariables false
set_option linter.unusedSimpArgs false
set_option maxRecDepth 100000
/-- A state. -/
structure ShS where
  h : List UInt32
  buf : List UInt8
  n : Int
  deriving DecidableEq
abbrev shC (s : ShS) : List AV := [.lit (.int .u32 (wv (s.h.getD 0 0))), .lit (.int .u32 (wv (s.h.getD 1 0))), .lit (.int .u32 (wv (s.h.getD 2 0))), .lit (.int .u32 (wv (s.h.getD 3 0))), .lit (.int .u32 (wv (s.h.getD 4 0))), .lit (.int .u32 (wv (s.h.getD 5 0))), .lit (.int .u32 (wv (s.h.getD 6 0))), .lit (.int .u32 (wv (s.h.getD 7 0))), bytes s.buf, int s.n]
abbrev shA (s : ShS) : AV := .agg (shC s)
def shNew : ShS := ⟨firsts, [], 0⟩
def shAs (s : ShS) : ShS := if s.buf.length ≥ 64 ∨ s.n < 0 ∨ s.n > 1125899906842624 then shNew else s
/-- Whole blocks, mixed in one behind the other; what is left over. -/
def shFold : Nat → List UInt32 → List UInt8 → List UInt32 × List UInt8
  | 0, h, b => (h, b)
  | k + 1, h, b => if 64 ≤ b.length then shFold k (mix h (b.take 64)) (b.drop 64) else (h, b)
def shWhole (h : List UInt32) (b : List UInt8) : List UInt32 × List UInt8 := shFold b.length h b
theorem shFold_more : ∀ (k m : Nat) (h : List UInt32) (b : List UInt8), b.length ≤ k → b.length ≤ m → shFold k h b = shFold m h b
  | 0, m, h, b, h1, h2 => by
    cases m with
    | zero => rfl
    | succ m => rw [shFold, shFold, if_neg (by omega)]
  | k + 1, 0, h, b, h1, h2 => by rw [shFold, shFold, if_neg (by omega)]
  | k + 1, m + 1, h, b, h1, h2 => by
    rw [shFold, shFold]
    split
    · exact shFold_more k m _ _ (by simp; omega) (by simp; omega)
    · rfl
theorem shWhole_step {h : List UInt32} {b : List UInt8} (hb : 64 ≤ b.length) : shWhole h b = shWhole (mix h (b.take 64)) (b.drop 64) := by
  unfold shWhole
  obtain ⟨k, hk⟩ : ∃ k, b.length = k + 1 := ⟨b.length - 1, by omega⟩
  rw [hk, shFold, if_pos hb]
  exact shFold_more _ _ _ _ (by simp; omega) (by simp)
theorem shWhole_done {h : List UInt32} {b : List UInt8} (hb : b.length < 64) : shWhole h b = (h, b) := by
  unfold shWhole
  cases hk : b.length with
  | zero => rfl
  | succ k => rw [shFold, if_neg (by omega)]
theorem shFold_len : ∀ (k : Nat) (h : List UInt32) (b : List UInt8), h.length = 8 → (shFold k h b).1.length = 8
  | 0, h, b, hh => hh
  | k + 1, h, b, hh => by
    rw [shFold]
    split
    · exact shFold_len k _ _ (mix_len _ _ hh)
    · exact hh
def shWrite (s : ShS) (b : List UInt8) : ShS :=
  if (shAs s).n + b.length > 1125899906842624 then shNew else ⟨(shWhole (shAs s).h ((shAs s).buf ++ b)).1, (shWhole (shAs s).h ((shAs s).buf ++ b)).2, (shAs s).n + b.length⟩
def shPad (n : Int) : List UInt8 :=
  if n < 0 ∨ n > 1125899906842624 then [] else 128 :: (List.replicate ((119 - n % 64) % 64).toNat 0 ++ (List.range 8).map fun i => u8of ((8 * n).fdiv (2 ^ (8 * (7 - i)))))
def word4 (w : UInt32) : List UInt8 := [u8of ((wv w).fdiv (2 ^ 24)), u8of ((wv w).fdiv (2 ^ 16)), u8of ((wv w).fdiv (2 ^ 8)), u8of (wv w)]
def shDone (s : ShS) : List UInt8 := ((shWrite (shAs s) (shPad (shAs s).n)).h.map word4).flatten
def shSum (b : List UInt8) : List UInt8 := shDone (shWrite shNew b)
theorem bfirst_c : APure Tryd.prog 21 [] (.agg (w8C firsts)) [] := bfirst_p.res (leW8 _)
theorem rbfirst_c : APure Tryd.prog 23 [] (.agg (w8C firsts)) [] := rbfirst_p.res (leW8 _)
theorem bmix_c (h : List UInt32) (b : List UInt8) (hh : h.length = 8) (hb : b.length = 64) : APure Tryd.prog 22 [.agg (w8C h), b64A b] (.agg (w8C (mix h b))) [] := ((bmix_p h b hh hb).le (les2 (leC8 _) (.refl _))).res (leW8 _)
theorem rbmix_c (h : List UInt32) (b : List UInt8) (hh : h.length = 8) (hb : b.length = 64) : APure Tryd.prog 29 [.agg (w8C h), b64A b] (.agg (w8C (mix h b))) [] := ((rbmix_p h b hh hb).le (les2 (leC8 _) (.refl _))).res (leW8 _)
theorem shnew_p : APure Tryd.prog 10 [] (shA shNew) [] := by
  refine apure_of hT Tryd.func10 rfl ?_
  simp only [Tryd.ntmps10, List.length_cons, List.length_nil, Nat.reduceAdd, Nat.reduceSub, List.replicate, List.cons_append, List.nil_append]
  refine go ⟨?_⟩
  refine cal goBFirst bfirst_c ⟨?_⟩
  refine go ⟨?_⟩
  exact fin
theorem goShNew : GoFn Tryd.prog 10 := ⟨_, _, Tryd.func10, by kernel_rfl, rfl⟩
theorem shknown_p (s : ShS) : APure Tryd.prog 24 [shA s] (shA (shAs s)) [] := by
  refine apure_of hT Tryd.func24 rfl ?_
  simp only [Tryd.ntmps24, List.length_cons, List.length_nil, Nat.reduceAdd, Nat.reduceSub, List.replicate, List.cons_append, List.nil_append]
  unfold shAs
  refine go ⟨?_⟩
  by_cases h1 : s.buf.length ≥ 64
  · rw [if_pos (.inl h1)]
    refine go ⟨?_⟩
    refine cal goShNew shnew_p ⟨?_⟩
    refine go ⟨?_⟩
    exact fin
  by_cases h2 : s.n < 0
  · rw [if_pos (.inr (.inl h2))]
    refine go ⟨?_⟩
    refine cal goShNew shnew_p ⟨?_⟩
    refine go ⟨?_⟩
    exact fin
  by_cases h3 : s.n > 1125899906842624
  · rw [if_pos (.inr (.inr h3))]
    refine go ⟨?_⟩
    refine cal goShNew shnew_p ⟨?_⟩
    refine go ⟨?_⟩
    exact fin
  rw [if_neg (by omega)]
  refine go ⟨?_⟩
  exact fin
theorem goShKnown : GoFn Tryd.prog 24 := ⟨_, _, Tryd.func24, by kernel_rfl, rfl⟩
/-- A state in a variable, behind which there is another variable. -/
abbrev oSh (s : ShS) : AObj := { T := 30, sz := 10, n := 1, f := fun _ => shC s, box := true }
theorem shtake_c (s : ShS) (b : List UInt8) (o : AObj) (hh : s.h.length = 8) (hb : b.length = 64) : ACall Tryd.prog 27 [.ptr 0 10 0 0, bytes b] [oSh s, o] fun r H' fg => r = .tup [] ∧ H' = [oSh { s with h := mix s.h b }, o] ∧ fg = [] := by
  refine acall_of hT Tryd.func27 rfl ?_
  simp only [Tryd.ntmps27, List.length_cons, List.length_nil, Nat.reduceAdd, Nat.reduceSub, List.replicate, List.cons_append, List.nil_append]
  refine go ⟨?_⟩
  refine calL goBMix (bmix_c s.h b hh hb) (les2 (AV.Le.refl (.agg (w8C s.h))) (leTake (b := b))) ⟨?_⟩
  refine go ⟨?_⟩
  refine retpn rfl trivial [] _ (Tells.refl _) ?_
  exact ⟨rfl, rfl, rfl⟩
theorem goShTake : GoFn Tryd.prog 27 := ⟨_, _, Tryd.func27, by kernel_rfl, rfl⟩
theorem shwhole_c (s : ShS) (b : List UInt8) (o : AObj) (hh : s.h.length = 8) (hb : b.length ≤ 1000000000000) : ACall Tryd.prog 25 [bytes b, .fn (.func 27) [.ptr 0 10 0 0] []] [oSh s, o]
    fun r H' fg => r = bytes (shWhole s.h b).2 ∧ H' = [oSh { s with h := (shWhole s.h b).1 }, o] ∧ fg = [] := by
  refine acall_of hT Tryd.func25 rfl ?_
  simp only [Tryd.ntmps25, List.length_cons, List.length_nil, Nat.reduceAdd, Nat.reduceSub, List.replicate, List.cons_append, List.nil_append]
  refine go ⟨?_⟩
  refine lp (fun p : {p : List UInt32 × List UInt8 // p.1.length = 8 ∧ p.2.length ≤ b.length ∧ shWhole p.1 p.2 = shWhole s.h b} => [(0, bytes p.1.2)]) (fun p => [oSh { s with h := p.1.1 }, o]) (fun p => p.1.2.length) ⟨(s.h, b), hh, Nat.le_refl _, rfl⟩ ?_
  rintro ⟨⟨g, r⟩, h1, h2, h3⟩
  simp only at h1 h2 h3
  refine go ⟨?_⟩
  refine aw_if rfl (fun h => ?_) (fun h => ?_)
  · refine go ⟨?_⟩
    refine al_callg rfl rfl rfl goShTake ((shtake_c { s with h := g } (r.take 64) o h1 (by simp; omega)).le (by exact les)) ?_
    refine go ⟨?_⟩
    refine je ⟨⟨(mix g (r.take 64), r.drop 64), mix_len _ _ h1, by show (r.drop 64).length ≤ b.length; rw [List.length_drop]; omega, (shWhole_step (by omega)).symm.trans h3⟩, by show (r.drop 64).length < r.length; rw [List.length_drop]; omega, ?_⟩
    exact tel
  · rw [shWhole_done (by omega)] at h3
    refine go ⟨?_⟩
    refine reta (x := bytes r) (H' := [oSh { s with h := g }, o]) rfl trivial ?_ (Tells.refl _)
    rw [← h3]
    exact ⟨rfl, rfl, rfl⟩
theorem goShWhole : GoFn Tryd.prog 25 := ⟨_, _, Tryd.func25, by kernel_rfl, rfl⟩
theorem grow_p (n : Nat) (hn : n ≤ 1000000000000) : APure Tryd.prog 32 [.lit (.slice none 0 0), int n] (.row 0 1 0 0 none) [oU8 []] := by
  refine apure_of hT Tryd.func32 rfl ?_
  simp only [Tryd.ntmps32, List.length_cons, List.length_nil, Nat.reduceAdd, Nat.reduceSub, List.replicate, List.cons_append, List.nil_append]
  refine go ⟨?_⟩
  refine al_cap hT rfl rfl rfl rfl ?_
  refine nz ⟨?_⟩
  refine go ⟨?_⟩
  have e : IntKind.i64.wrap ((n : Int) - IntKind.i64.wrap (0 - 0)) = n := by simp only [IntKind.wrap_i64]; omega
  rw [e]
  by_cases h0 : n = 0
  · refine aw_tell (Tells.nilRow (t := 0) 5 1 rfl rfl) ?_
    simp only [setn]
    refine go ⟨?_⟩
    exact fin
  refine go ⟨?_⟩
  refine al_cap hT rfl rfl rfl rfl ?_
  refine nz ⟨?_⟩
  refine go ⟨?_⟩
  refine al_appzero hT rfl rfl rfl (by simp; omega) ?_
  refine nz ⟨?_⟩
  refine go ⟨?_⟩
  exact fin
theorem goGrow : GoFn Tryd.prog 32 := ⟨_, _, Tryd.func32, by kernel_rfl, rfl⟩
theorem flat_take {xs : List (List UInt8)} {i : Nat} (h : i < xs.length) : (xs.take (i + 1)).flatten = (xs.take i).flatten ++ xs.getD i [] := by
  rw [List.take_succ_eq_append_getElem h, List.flatten_append]; simp [List.getD_eq_getElem?_getD, h]
theorem flat_le (xs : List (List UInt8)) (i : Nat) : (xs.take i).flatten.length ≤ xs.flatten.length := by
  have := congrArg List.length (congrArg List.flatten (List.take_append_drop i xs))
  simp only [List.flatten_append, List.length_append] at this
  omega
theorem concat_p (xs : List (List UInt8)) (hx : xs.length ≤ 1000000) (hf : xs.flatten.length ≤ 1000000000000) : APure Tryd.prog 26 [slE eBB xs] (bytes xs.flatten) [] := by
  refine apure_of hT Tryd.func26 rfl ?_
  simp only [Tryd.ntmps26, List.length_cons, List.length_nil, Nat.reduceAdd, Nat.reduceSub, List.replicate, List.cons_append, List.nil_append]
  refine go ⟨?_⟩
  refine lp (fun i : {i : Nat // i ≤ xs.length} => [(11, int i.1), (3, int (xs.take i.1).flatten.length)]) (fun _ => []) (fun i => xs.length - i.1) ⟨0, by omega⟩ ?_
  rintro ⟨i, hi⟩
  have hle := flat_le xs i
  refine go ⟨?_⟩
  refine aw_if rfl (fun h => ?_) (fun h => ?_)
  · have hlt : i < xs.length := by omega
    have hle1 := flat_le xs (i + 1)
    have hs := congrArg List.length (flat_take hlt)
    rw [List.length_append] at hs
    refine go ⟨?_⟩
    have e : IntKind.i64.wrap (((xs.take i).flatten.length : Int) + ((xs.getD i eBB.z).length : Int)) = ((xs.take (i + 1)).flatten.length : Int) := by
      rw [show eBB.z = ([] : List UInt8) from rfl]; simp only [IntKind.wrap_i64]; omega
    simp only [e]
    refine go ⟨?_⟩
    refine je ⟨⟨i + 1, by omega⟩, by simp only; omega, ?_⟩
    exact tel
  obtain rfl : i = xs.length := by omega
  rw [List.take_length]
  refine go ⟨?_⟩
  refine cal goGrow (grow_p xs.flatten.length hf) ⟨?_⟩
  refine go ⟨?_⟩
  refine lp (fun i : {i : Nat // i ≤ xs.length} => [(27, int i.1), (6, .row 0 1 0 (xs.take i.1).flatten.length none), (24, .junk)]) (fun i => [oU8 (xs.take i.1).flatten]) (fun i => xs.length - i.1) ⟨0, by omega⟩ ?_
  rintro ⟨i, hi⟩
  have hle := flat_le xs i
  refine go ⟨?_⟩
  refine aw_if rfl (fun h => ?_) (fun h => ?_)
  · have hlt : i < xs.length := by omega
    have hle1 := flat_le xs (i + 1)
    have hs := flat_take hlt
    have hs' := congrArg List.length hs
    rw [List.length_append] at hs'
    refine go ⟨?_⟩
    refine app (fU8 (xs.take (i + 1)).flatten) hT rfl rfl rfl rfl (fun k hk => ?_) ?_ (hq := by rw [show eBB.z = ([] : List UInt8) from rfl]; refine ⟨trivial, Nat.le_refl _, ?_, ?_⟩ <;> (try dsimp only) <;> omega)
    · rw [hs]; exact fU8_app rfl hk
    refine nz ⟨?_⟩
    refine go ⟨?_⟩
    refine je ⟨⟨i + 1, by omega⟩, by simp only; omega, ?_⟩
    rw [show eBB.z = ([] : List UInt8) from rfl, ← hs']
    exact tel
  obtain rfl : i = xs.length := by omega
  rw [List.take_length]
  refine go ⟨?_⟩
  exact fin
theorem goConcat : GoFn Tryd.prog 26 := ⟨_, _, Tryd.func26, by kernel_rfl, rfl⟩
theorem shAs_ok {s : ShS} (hh : s.h.length = 8) : (shAs s).h.length = 8 ∧ (shAs s).buf.length < 64 ∧ 0 ≤ (shAs s).n ∧ (shAs s).n ≤ 1125899906842624 := by
  unfold shAs
  split
  · exact ⟨rfl, by decide, by decide, by decide⟩
  · rename_i h
    exact ⟨hh, by omega, by omega, by omega⟩
theorem shwrite_p (s : ShS) (b : List UInt8) (hh : s.h.length = 8) (hb : b.length ≤ 100000000000) : APure Tryd.prog 12 [shA s, bytes b] (shA (shWrite s b)) [] := by
  refine apure_of hT Tryd.func12 rfl ?_
  simp only [Tryd.ntmps12, List.length_cons, List.length_nil, Nat.reduceAdd, Nat.reduceSub, List.replicate, List.cons_append, List.nil_append]
  unfold shWrite
  obtain ⟨h1, h2, h3, h4⟩ := shAs_ok hh
  refine go ⟨?_⟩
  refine cal goShKnown (shknown_p s) ⟨?_⟩
  generalize shAs s = x at *
  refine go ⟨?_⟩
  have e : IntKind.i64.wrap (x.n + (b.length : Int)) = x.n + b.length := by simp only [IntKind.wrap_i64]; omega
  simp only [e]
  by_cases hm : x.n + b.length > 1125899906842624
  · rw [if_pos hm]
    refine go ⟨?_⟩
    refine cal goShNew shnew_p ⟨?_⟩
    refine go ⟨?_⟩
    exact fin
  rw [if_neg hm]
  refine go ⟨?_⟩
  refine cal goConcat (concat_p [x.buf, b] (by simp) (by simp; omega)) ⟨?_⟩
  refine go ⟨?_⟩
  simp only [e]
  have hfl : [x.buf, b].flatten = x.buf ++ b := by simp
  rw [hfl]
  refine al_tell (Tells.sel [0, 1] rfl rfl) ?_
  refine nz ⟨?_⟩
  refine al_callg rfl rfl rfl goShWhole (shwhole_c ⟨x.h, x.buf, x.n + b.length⟩ (x.buf ++ b) _ h1 (by simp; omega)) ?_
  refine nz ⟨?_⟩
  refine go ⟨?_⟩
  exact fin
theorem goShWrite : GoFn Tryd.prog 12 := ⟨_, _, Tryd.func12, by kernel_rfl, rfl⟩
end
end Go.Proofs.YthdckgcalooipaaDoor
namespace Go.Proofs.YthdckgcalooipaaDoor
section
open Go.RowKit
attribute [local irreducible] EachR AO IterP RoundP ADr AL AW Then InBlock RetP Tells APure ACall
set_option linter.unusedVariables false
set_option linter.unusedSimpArgs false
set_option maxRecDepth 100000
def padB (n : Int) (i : Nat) : List UInt8 := (List.range i).map fun i => u8of ((8 * n).fdiv (2 ^ (8 * (7 - i))))
def padH (n : Int) : List UInt8 := 128 :: List.replicate ((119 - n % 64) % 64).toNat 0
theorem shPad_eq {n : Int} (h0 : 0 ≤ n) (h1 : n ≤ 1125899906842624) : shPad n = padH n ++ padB n 8 := by
  unfold shPad padH padB; rw [if_neg (by omega)]; rfl
theorem padB_succ (n : Int) (i : Nat) : padB n (i + 1) = padB n i ++ [u8of ((8 * n).fdiv (2 ^ (8 * (7 - i))))] := by simp [padB, List.range_succ]
theorem padB_len (n : Int) (i : Nat) : (padB n i).length = i := by simp [padB]
theorem padH_len (n : Int) : (padH n).length = ((119 - n % 64) % 64).toNat + 1 := by simp [padH]
theorem shpad_p (n : Int) : APure Tryd.prog 19 [int n] (bytes (shPad n)) [] := by
  refine apure_of hT Tryd.func19 rfl ?_
  simp only [Tryd.ntmps19, List.length_cons, List.length_nil, Nat.reduceAdd, Nat.reduceSub, List.replicate, List.cons_append, List.nil_append]
  refine go ⟨?_⟩
  by_cases h0 : n < 0
  · rw [show shPad n = [] from if_pos (.inl h0)]
    refine go ⟨?_⟩
    exact fin
  by_cases h1 : n > 1125899906842624
  · rw [show shPad n = [] from if_pos (.inr h1)]
    refine go ⟨?_⟩
    exact fin
  rw [shPad_eq (by omega) (by omega)]
  refine go ⟨?_⟩
  have e : IntKind.i64.wrap (1 + (IntKind.i64.wrap (119 - n.tmod 64)).tmod 64) = ((padH n).length : Int) := by
    rw [padH_len]
    have e1 : n.tmod 64 = n % 64 := Int.tmod_eq_emod_of_nonneg (by omega)
    have e2 : IntKind.i64.wrap (119 - n % 64) = 119 - n % 64 := by simp only [IntKind.wrap_i64]; omega
    rw [e1, e2, Int.tmod_eq_emod_of_nonneg (by omega)]
    simp only [IntKind.wrap_i64]; omega
  have hl : (padH n).length ≤ 64 := by rw [padH_len]; omega
  rw [e]
  refine al_new hT rfl rfl (by refine ⟨rfl, ?_, ?_, ?_⟩ <;> (try dsimp only) <;> omega) ?_
  refine nz ⟨?_⟩
  have hp : 0 < (padH n).length := by rw [padH_len]; omega
  refine go ⟨?_⟩
  refine lp (fun i : {i : Nat // i ≤ 8} => [(19, int i.1), (3, .row 0 1 0 ((padH n).length + i.1) none), (16, .junk), (17, .junk), (18, .junk)]) (fun i => [{ T := 5, sz := 1, n := (padH n).length + i.1, f := fU8 (padH n ++ padB n i.1) }]) (fun i => 8 - i.1) ⟨0, by omega⟩ ?_ (h0 := ?_)
  rotate_left
  · simp only [lst, junkL, setsL, setn]
    refine Tells.le (by exact les) (.cons (.of (by simp) (fun h => h) fun k hk => ?_) .nil)
    rw [show padB n 0 = [] from rfl, List.append_nil]
    rcases k with _ | k
    · rfl
    · have e1 : (padH n).getD (k + 1) 0 = 0 := by
        show (List.replicate ((119 - n % 64) % 64).toNat (0 : UInt8)).getD k 0 = 0
        rw [padH_len] at hk
        rw [List.getD_eq_getElem?_getD, List.getElem?_replicate, if_pos (by omega)]; rfl
      show eU8 ((padH n).getD (k + 1) 0) = _
      rw [e1]; rfl
  rintro ⟨i, hi⟩
  refine go ⟨?_⟩
  refine aw_if rfl (fun h => ?_) (fun h => ?_)
  · refine go ⟨?_⟩
    have e2 : IntKind.i64.wrap (8 * n) = 8 * n := by simp only [IntKind.wrap_i64]; omega
    have e3 : min (IntKind.i64.wrap (8 * IntKind.i64.wrap (7 - (i : Int)))).toNat IntKind.i64.bits = 8 * (7 - i) := by
      simp only [IntKind.wrap_i64]
      have : IntKind.i64.bits = 64 := rfl
      omega
    rw [e2, e3, ← u8of_toNat]
    refine app (fU8 (padH n ++ padB n (i + 1))) hT rfl rfl rfl rfl (fun k hk => ?_) ?_
    · rw [padB_succ, ← List.append_assoc]
      exact appU8 (xs := padH n ++ padB n i) (ys := [u8of ((8 * n).fdiv (2 ^ (8 * (7 - i))))]) (by simp [padB_len]) rfl rfl k hk
    refine nz ⟨?_⟩
    refine go ⟨?_⟩
    refine je ⟨⟨i + 1, by omega⟩, by simp only; omega, ?_⟩
    exact tel
  obtain rfl : i = 8 := by omega
  refine go ⟨?_⟩
  rw [show (padH n).length + 8 = (padH n ++ padB n 8).length by simp [padB_len]]
  exact fin
theorem goShPad : GoFn Tryd.prog 19 := ⟨_, _, Tryd.func19, by kernel_rfl, rfl⟩
theorem shPad_len (n : Int) : (shPad n).length ≤ 72 := by
  unfold shPad
  split
  · simp
  · simp; omega
theorem shWrite_len (s : ShS) (b : List UInt8) (hh : s.h.length = 8) : (shWrite s b).h.length = 8 := by
  unfold shWrite
  split
  · rfl
  · exact shFold_len _ _ _ (shAs_ok hh).1
def wordsB (h : List UInt32) (i : Nat) : List UInt8 := ((h.take i).map word4).flatten
theorem wordsB_succ {h : List UInt32} {i : Nat} (hi : i < h.length) : wordsB h (i + 1) = wordsB h i ++ word4 (h.getD i 0) := by
  unfold wordsB
  rw [List.take_succ_eq_append_getElem hi, List.map_append, List.flatten_append]; simp [List.getD_eq_getElem?_getD, hi]
theorem wordsB_len {h : List UInt32} : ∀ {i : Nat}, i ≤ h.length → (wordsB h i).length = 4 * i
  | 0, _ => rfl
  | i + 1, hi => by rw [wordsB_succ (by omega), List.length_append, wordsB_len (by omega)]; simp [word4]; omega
theorem shdone_p (s : ShS) (hh : s.h.length = 8) : APure Tryd.prog 15 [shA s] (bytes (shDone s)) [] := by
  refine apure_of hT Tryd.func15 rfl ?_
  simp only [Tryd.ntmps15, List.length_cons, List.length_nil, Nat.reduceAdd, Nat.reduceSub, List.replicate, List.cons_append, List.nil_append]
  unfold shDone
  obtain ⟨h1, h2, h3, h4⟩ := shAs_ok hh
  refine go ⟨?_⟩
  refine cal goShKnown (shknown_p s) ⟨?_⟩
  generalize shAs s = x at *
  refine go ⟨?_⟩
  refine cal goShPad (shpad_p x.n) ⟨?_⟩
  refine go ⟨?_⟩
  have hp := shPad_len x.n
  refine cal goShWrite (shwrite_p x (shPad x.n) h1 (by omega)) ⟨?_⟩
  refine go ⟨?_⟩
  have h5 := shWrite_len x (shPad x.n) h1
  generalize (shWrite x (shPad x.n)).h = g at *
  refine aw_tell (Tells.slot 13 (w8A g) rfl (leC8 g)) ?_
  refine aw_tell (Tells.nilRow (t := 3) 5 1 rfl rfl) ?_
  simp only [setn, List.length_cons, List.length_nil, Nat.zero_add]
  refine aw_tell (Tells.sel [1] rfl rfl) ?_
  simp only [List.map, ren, idx]
  refine lp (fun i : {i : Nat // i ≤ 8} => [(14, int i.1), (3, .row 0 1 0 (4 * i.1) none)]) (fun i => [{ T := 5, sz := 1, n := 4 * i.1, f := fU8 (wordsB g i.1) }]) (fun i => 8 - i.1) ⟨0, by omega⟩ ?_
  rintro ⟨i, hi⟩
  refine go ⟨?_⟩
  refine aw_if rfl (fun h => ?_) (fun h => ?_)
  · refine go ⟨?_⟩
    refine app (fU8 (wordsB g (i + 1))) hT rfl rfl rfl rfl (fun k hk => ?_) ?_
    · rw [wordsB_succ (by omega)]
      exact appU8 (xs := wordsB g i) (ys := word4 (g.getD i 0)) (by rw [wordsB_len (by omega)]) rfl (by simp only [word4, List.map, u8of_toNat]; rfl) k hk
    refine nz ⟨?_⟩
    refine go ⟨?_⟩
    refine je ⟨⟨i + 1, by omega⟩, by simp only; omega, ?_⟩
    exact tel
  obtain rfl : i = 8 := by omega
  refine go ⟨?_⟩
  have e1 : wordsB g 8 = (g.map word4).flatten := by unfold wordsB; rw [List.take_of_length_le (by omega)]
  have e2 := wordsB_len (h := g) (i := 8) (by omega)
  rw [e1] at e2
  rw [e1, ← e2]
  exact fin
theorem goShDone : GoFn Tryd.prog 15 := ⟨_, _, Tryd.func15, by kernel_rfl, rfl⟩
theorem shsum_p (b : List UInt8) (hb : b.length ≤ 100000000000) : APure Tryd.prog 17 [bytes b] (bytes (shSum b)) [] := by
  refine apure_of hT Tryd.func17 rfl ?_
  simp only [Tryd.ntmps17, List.length_cons, List.length_nil, Nat.reduceAdd, Nat.reduceSub, List.replicate, List.cons_append, List.nil_append]
  refine go ⟨?_⟩
  refine cal goShNew shnew_p ⟨?_⟩
  refine go ⟨?_⟩
  refine cal goShWrite (shwrite_p shNew b rfl hb) ⟨?_⟩
  refine go ⟨?_⟩
  refine cal goShDone (shdone_p _ (shWrite_len _ _ rfl)) ⟨?_⟩
  refine go ⟨?_⟩
  exact fin
theorem goShSum : GoFn Tryd.prog 17 := ⟨_, _, Tryd.func17, by kernel_rfl, rfl⟩
end
end Go.Proofs.YthdckgcalooipaaDoor
namespace Go.Proofs.YthdckgcalooipaaDoor
section
open Go.RowKit
attribute [local irreducible] EachR AO IterP RoundP ADr AL AW Then InBlock RetP Tells APure ACall
set_option linter.unusedVariables false
set_option linter.unusedSimpArgs false
set_option maxRecDepth 100000
theorem rshnew_p : APure Tryd.prog 11 [] (shA shNew) [] := by
  refine apure_of hT Tryd.func11 rfl ?_
  simp only [Tryd.ntmps11, List.length_cons, List.length_nil, Nat.reduceAdd, Nat.reduceSub, List.replicate, List.cons_append, List.nil_append]
  refine go ⟨?_⟩
  refine cal goRBFirst rbfirst_c ⟨?_⟩
  refine go ⟨?_⟩
  exact fin
theorem goRShNew : GoFn Tryd.prog 11 := ⟨_, _, Tryd.func11, by kernel_rfl, rfl⟩
theorem rshas_p (s : ShS) : APure Tryd.prog 28 [shA s] (shA (shAs s)) [] := by
  refine apure_of hT Tryd.func28 rfl ?_
  simp only [Tryd.ntmps28, List.length_cons, List.length_nil, Nat.reduceAdd, Nat.reduceSub, List.replicate, List.cons_append, List.nil_append]
  unfold shAs
  refine go ⟨?_⟩
  by_cases h1 : s.buf.length ≥ 64
  · rw [if_pos (.inl h1)]
    refine go ⟨?_⟩
    refine cal goRShNew rshnew_p ⟨?_⟩
    refine go ⟨?_⟩
    exact fin
  by_cases h2 : s.n < 0
  · rw [if_pos (.inr (.inl h2))]
    refine go ⟨?_⟩
    refine cal goRShNew rshnew_p ⟨?_⟩
    refine go ⟨?_⟩
    exact fin
  by_cases h3 : s.n > 1125899906842624
  · rw [if_pos (.inr (.inr h3))]
    refine go ⟨?_⟩
    refine cal goRShNew rshnew_p ⟨?_⟩
    refine go ⟨?_⟩
    exact fin
  rw [if_neg (by omega)]
  refine go ⟨?_⟩
  exact fin
theorem goRShAs : GoFn Tryd.prog 28 := ⟨_, _, Tryd.func28, by kernel_rfl, rfl⟩
/-- The first i octets, and zeros. -/
def cpF (r : List UInt8) (i k : Nat) : List AV := match Nat.blt k i with | true => eU8 (r.getD k 0) | false => eU8 0
theorem cpF_succ (r : List UInt8) (i k : Nat) : cpF r (i + 1) k = upd (cpF r i) i (eU8 (r.getD i 0)) k := by
  unfold cpF upd
  cases hj : Nat.beq k i with
  | true => obtain rfl := Nat.eq_of_beq_eq_true hj; rw [show Nat.blt k (k + 1) = true by rw [Nat.blt_eq]; omega]
  | false =>
    have hne : k ≠ i := by rintro rfl; rw [Nat.beq_refl] at hj; cases hj
    by_cases h : k < i
    · simp only [show Nat.blt k (i + 1) = true by rw [Nat.blt_eq]; omega, show Nat.blt k i = true by rw [Nat.blt_eq]; omega]
    · have h1 : Nat.blt k (i + 1) = false := by cases h2 : Nat.blt k (i + 1) with | false => rfl | true => rw [Nat.blt_eq] at h2; omega
      have h3 : Nat.blt k i = false := by cases h2 : Nat.blt k i with | false => rfl | true => rw [Nat.blt_eq] at h2; omega
      simp only [h1, h3]
theorem cpF_drop (r : List UInt8) (i k : Nat) : List.drop 1 (cpF r i k) = [] := by unfold cpF; split <;> rfl
theorem cpF_done {r : List UInt8} {k : Nat} (hk : k < 64) : cpF r 64 k = fU8 r k := by
  unfold cpF; rw [show Nat.blt k 64 = true by rw [Nat.blt_eq]; omega]; rfl
abbrev oRSh (s : ShS) : AObj := { T := 26, sz := 10, n := 1, f := fun _ => shC s, box := true }
theorem rshwrite_p (s : ShS) (b : List UInt8) (hh : s.h.length = 8) (hb : b.length ≤ 100000000000) : APure Tryd.prog 14 [shA s, bytes b] (shA (shWrite s b)) [] := by
  refine apure_of hT Tryd.func14 rfl ?_
  simp only [Tryd.ntmps14, List.length_cons, List.length_nil, Nat.reduceAdd, Nat.reduceSub, List.replicate, List.cons_append, List.nil_append]
  unfold shWrite
  obtain ⟨h1, h2, h3, h4⟩ := shAs_ok hh
  refine go ⟨?_⟩
  refine cal goRShAs (rshas_p s) ⟨?_⟩
  generalize shAs s = x at *
  refine go ⟨?_⟩
  have e : IntKind.i64.wrap (x.n + (b.length : Int)) = x.n + b.length := by simp only [IntKind.wrap_i64]; omega
  simp only [e]
  by_cases hm : x.n + b.length > 1125899906842624
  · rw [if_pos hm]
    refine go ⟨?_⟩
    refine cal goRShNew rshnew_p ⟨?_⟩
    refine go ⟨?_⟩
    exact fin
  rw [if_neg hm]
  refine go ⟨?_⟩
  refine app (fU8 x.buf) hT rfl rfl rfl rfl (fun k hk => (appF_ge (f := getC []) (g := fU8 x.buf) (Nat.zero_le k)).symm) ?_
  refine nz ⟨?_⟩
  refine go ⟨?_⟩
  refine app (fU8 (x.buf ++ b)) hT rfl rfl rfl rfl (fun k hk => fU8_app rfl hk) ?_
  refine nz ⟨?_⟩
  refine go ⟨?_⟩
  refine aw_tell (Tells.thaw (t := 6) rfl rfl (Nat.le_of_eq (Nat.zero_add _))) ?_
  refine aw_tell (Tells.sel [1, 2] rfl rfl) ?_
  simp only [setn, List.map, ren, idx, nbeq, Nat.reduceBEq, Option.map_some, Option.map_none, Nat.zero_add, Nat.reduceAdd, reno_t]
  refine lp (fun p : {p : List UInt32 × List UInt8 // p.1.length = 8 ∧ p.2.length ≤ (x.buf ++ b).length ∧ shWhole p.1 p.2 = shWhole x.h (x.buf ++ b)} => [(6, bytes p.1.2)])
    (fun p => [{ T := 26, sz := 10, n := 1, f := fun _ => [.lit (.int .u32 0), .lit (.int .u32 0), .lit (.int .u32 0), .lit (.int .u32 0), .lit (.int .u32 0), .lit (.int .u32 0), .lit (.int .u32 0), .lit (.int .u32 0), .lit (.slice none 0 0), .lit (.int .i64 0)], box := true }, oRSh { x with h := p.1.1 }]) (fun p => p.1.2.length) ⟨(x.h, x.buf ++ b), h1, Nat.le_refl _, rfl⟩ ?_
  rintro ⟨⟨g, r⟩, g1, g2, g3⟩
  simp only at g1 g2 g3
  refine go ⟨?_⟩
  refine aw_if rfl (fun h => ?_) (fun h => ?_)
  · refine go ⟨?_⟩
    refine lp (fun i : {i : Nat // i ≤ 64} => [(8, int i.1)]) (fun i => [{ T := 26, sz := 10, n := 1, f := fun _ => [.lit (.int .u32 0), .lit (.int .u32 0), .lit (.int .u32 0), .lit (.int .u32 0), .lit (.int .u32 0), .lit (.int .u32 0), .lit (.int .u32 0), .lit (.int .u32 0), .lit (.slice none 0 0), .lit (.int .i64 0)], box := true }, oRSh { x with h := g }, { T := 44, sz := 1, n := 64, f := cpF r i.1 }]) (fun i => 64 - i.1) ⟨0, by omega⟩ ?_
    rintro ⟨i, hi⟩
    refine go ⟨?_⟩
    refine aw_if rfl (fun h => ?_) (fun h => ?_)
    · refine go ⟨?_⟩
      refine je ⟨⟨i + 1, by omega⟩, by simp only; omega, ?_⟩
      simp only [lst, junkL, setsL, setn]
      refine Tells.le (by exact les) (.cons (.refl _) (.cons (.refl _) (.cons (.of (Nat.le_refl _) (fun h => h) fun k hk => ?_) .nil)))
      rw [cpF_drop]
      exact cpF_succ r i k
    obtain rfl : i = 64 := by omega
    refine aw_tell (Tells.objf 2 (fU8 (r.take 64)) rfl fun k hk => ?_) ?_
    · have hk : k < 64 := hk
      refine Eq.trans ?_ (cpF_done hk).symm
      simp [fU8, List.getD_eq_getElem?_getD, List.getElem?_take_of_lt hk]
    simp only [setn]
    refine go ⟨?_⟩
    refine calL goRBMix (rbmix_c g (r.take 64) g1 (by simp; omega)) (les2 (AV.Le.refl (.agg (w8C g))) (AV.Le.refl (b64A (r.take 64)))) ⟨?_⟩
    refine go ⟨?_⟩
    refine je ⟨⟨(mix g (r.take 64), r.drop 64), mix_len _ _ g1, by show (r.drop 64).length ≤ (x.buf ++ b).length; rw [List.length_drop]; omega, (shWhole_step (by omega)).symm.trans g3⟩, by show (r.drop 64).length < r.length; rw [List.length_drop]; omega, ?_⟩
    simp only [lst, junkL, setsL, setn]
    exact (Tells.sel [0, 1] rfl rfl).trans (Tells.le (by exact les) (by exact leh))
  · rw [shWhole_done (by omega)] at g3
    rw [← g3]
    refine go ⟨?_⟩
    simp only [e]
    exact fin
theorem goRShWrite : GoFn Tryd.prog 14 := ⟨_, _, Tryd.func14, by kernel_rfl, rfl⟩
theorem low8 (q : Int) : IntKind.u8.wrap (q % 2 ^ 8) = IntKind.u8.wrap q := by simp only [IntKind.wrap_u8]; omega
theorem rshpad_p (n : Int) : APure Tryd.prog 20 [int n] (bytes (shPad n)) [] := by
  refine apure_of hT Tryd.func20 rfl ?_
  simp only [Tryd.ntmps20, List.length_cons, List.length_nil, Nat.reduceAdd, Nat.reduceSub, List.replicate, List.cons_append, List.nil_append]
  refine go ⟨?_⟩
  by_cases h0 : n < 0
  · rw [show shPad n = [] from if_pos (.inl h0)]
    refine go ⟨?_⟩
    exact fin
  by_cases h1 : n > 1125899906842624
  · rw [show shPad n = [] from if_pos (.inr h1)]
    refine go ⟨?_⟩
    exact fin
  rw [shPad_eq (by omega) (by omega)]
  refine go ⟨?_⟩
  have hK : (((119 - n % 64) % 64).toNat : Int) = (119 - n % 64) % 64 := by omega
  refine lp (fun c : {c : Nat // c ≤ ((119 - n % 64) % 64).toNat} => [(3, .row 0 1 0 (1 + c.1) none), (11, .junk)]) (fun c => [{ T := 5, sz := 1, n := 1 + c.1, f := fU8 (128 :: List.replicate c.1 0) }]) (fun c => ((119 - n % 64) % 64).toNat - c.1) ⟨0, by omega⟩ ?_ (h0 := by simp only [lst, junkL, setsL, setn]; exact Tells.le (by exact les) (.cons (.of (Nat.le_refl _) (fun h => h) fun k hk => by obtain rfl : k = 0 := (by have hk : k < 1 + 0 := hk; omega); rfl) .nil))
  rintro ⟨c, hc⟩
  have e1 : (IntKind.i64.wrap (IntKind.i64.wrap (n + ((1 + c : Nat) : Int)) + 8)).tmod 64 = (n + 1 + c + 8) % 64 := by
    have : IntKind.i64.wrap (IntKind.i64.wrap (n + ((1 + c : Nat) : Int)) + 8) = n + 1 + c + 8 := by simp only [IntKind.wrap_i64]; omega
    rw [this]; exact Int.tmod_eq_emod_of_nonneg (by omega)
  refine go ⟨?_⟩
  rw [e1]
  by_cases hlt : c < ((119 - n % 64) % 64).toNat
  · rw [show ((n + 1 + (c : Int) + 8) % 64 != 0) = true by rw [bne_iff_ne]; omega]
    refine go ⟨?_⟩
    refine app (fU8 (128 :: List.replicate (c + 1) 0)) hT rfl rfl rfl rfl (fun k hk => ?_) ?_
    · rw [show (128 :: List.replicate (c + 1) (0 : UInt8)) = (128 :: List.replicate c 0) ++ [0] by rw [List.replicate_succ']; rfl]
      exact appU8 (xs := 128 :: List.replicate c 0) (ys := [0]) (by simp; omega) rfl rfl k hk
    refine nz ⟨?_⟩
    refine go ⟨?_⟩
    refine je ⟨⟨c + 1, by omega⟩, by simp only; omega, ?_⟩
    exact tel
  obtain rfl : c = ((119 - n % 64) % 64).toNat := by omega
  rw [show ((n + 1 + ((((119 - n % 64) % 64).toNat : Nat) : Int) + 8) % 64 != 0) = false by rw [bne_eq_false_iff_eq]; omega]
  rw [show 1 + ((119 - n % 64) % 64).toNat = (padH n).length by rw [padH_len]; omega, show (128 :: List.replicate ((119 - n % 64) % 64).toNat (0 : UInt8)) = padH n from rfl]
  have hl : (padH n).length ≤ 64 := by rw [padH_len]; omega
  refine go ⟨?_⟩
  refine lp (fun j : {j : Nat // j ≤ 8} => [(4, int (7 - (j.1 : Int))), (3, .row 0 1 0 ((padH n).length + j.1) none), (13, .junk)]) (fun i => [{ T := 5, sz := 1, n := (padH n).length + i.1, f := fU8 (padH n ++ padB n i.1) }]) (fun i => 8 - i.1) ⟨0, by omega⟩ ?_ (h0 := by simp only [lst, junkL, setsL, setn]; exact Tells.le (by exact les) (.cons (.of (Nat.le_refl _) (fun h => h) fun k hk => by rw [show padB n 0 = [] from rfl, List.append_nil]) .nil))
  rintro ⟨j, hj⟩
  refine go ⟨?_⟩
  refine aw_if rfl (fun h => ?_) (fun h => ?_)
  · refine go ⟨?_⟩
    have e2 : IntKind.i64.wrap (n * 8) = 8 * n := by simp only [IntKind.wrap_i64]; omega
    have e3 : min (IntKind.u64.wrap (IntKind.i64.wrap (8 * (7 - (j : Int))))).toNat IntKind.i64.bits = 8 * (7 - j) := by
      simp only [IntKind.wrap_i64, IntKind.wrap_u64]
      have : IntKind.i64.bits = 64 := rfl
      omega
    have e4 := and_mask ((8 * n).fdiv (2 ^ (8 * (7 - j)))) 8 (by decide)
    rw [show ((2 : Int) ^ 8 - 1) = 255 from rfl] at e4
    rw [e2, e3, e4, low8, ← u8of_toNat]
    refine app (fU8 (padH n ++ padB n (j + 1))) hT rfl rfl rfl rfl (fun k hk => ?_) ?_
    · rw [padB_succ, ← List.append_assoc]
      exact appU8 (xs := padH n ++ padB n j) (ys := [u8of ((8 * n).fdiv (2 ^ (8 * (7 - j))))]) (by simp [padB_len]) rfl rfl k hk
    refine nz ⟨?_⟩
    refine go ⟨?_⟩
    refine je ⟨⟨j + 1, by omega⟩, by simp only; omega, ?_⟩
    exact tel
  obtain rfl : j = 8 := by omega
  refine go ⟨?_⟩
  rw [show (padH n).length + 8 = (padH n ++ padB n 8).length by simp [padB_len]]
  exact fin
theorem goRShPad : GoFn Tryd.prog 20 := ⟨_, _, Tryd.func20, by kernel_rfl, rfl⟩
theorem c8_at (l : List UInt32) : ∀ k, k < 8 → (fun k => [(w8C l).getD k AV.junk]) k = fU32 l k
  | 0, _ | 1, _ | 2, _ | 3, _ | 4, _ | 5, _ | 6, _ | 7, _ => rfl
  | k + 8, h => by omega
theorem isInts_c8 (l : List UInt32) : isInts .u32 8 (fun k => [(w8C l).getD k AV.junk]) := fun k hk => by rw [c8_at l k hk]; exact ⟨_, rfl⟩
theorem arrEq_c8 {a b : List UInt32} (ha : a.length = 8) (hb : b.length = 8) : arrEq 8 (fun k => [(w8C a).getD k AV.junk]) (fun k => [(w8C b).getD k AV.junk]) = (a == b) := by
  rw [← arrEq_u32 ha hb]
  unfold arrEq
  rw [decide_eq_decide]
  exact ⟨fun h k hk => by rw [← c8_at a k hk, ← c8_at b k hk]; exact h k hk, fun h k hk => by rw [c8_at a k hk, c8_at b k hk]; exact h k hk⟩
theorem sh_eq {a b : ShS} : a = b ↔ a.h = b.h ∧ a.buf = b.buf ∧ a.n = b.n := by cases a; cases b; simp
theorem rshsame_p (a b : ShS) (ha : a.h.length = 8) (hb : b.h.length = 8) : APure Tryd.prog 8 [shA a, shA b] (.lit (.bool (decide (a = b)))) [] := by
  refine apure_of hT Tryd.func8 rfl ?_
  simp only [Tryd.ntmps8, List.length_cons, List.length_nil, Nat.reduceAdd, Nat.reduceSub, List.replicate, List.cons_append, List.nil_append]
  refine go ⟨?_⟩
  refine al_pure hT rfl rfl ⟨isInts_c8 a.h, isInts_c8 b.h⟩ ?_
  rw [arrEq_c8 ha hb]
  refine nz ⟨?_⟩
  simp only [sh_eq]
  by_cases h1 : a.h = b.h
  · rw [show (a.h == b.h) = true by simpa using h1]
    by_cases h2 : a.buf = b.buf
    · refine go ⟨?_⟩
      rw [show (a.buf == b.buf) = true by simpa using h2]
      refine go ⟨?_⟩
      exact fin
    · refine go ⟨?_⟩
      rw [show (a.buf == b.buf) = false by simpa using h2]
      refine go ⟨?_⟩
      exact fin
  · rw [show (a.h == b.h) = false by simpa using h1]
    refine go ⟨?_⟩
    exact fin
theorem goRShSame : GoFn Tryd.prog 8 := ⟨_, _, Tryd.func8, by kernel_rfl, rfl⟩
theorem theirs_p (a : ShS) : APure Tryd.prog 9 [shA a] (shA a) [] := by
  refine apure_of hT Tryd.func9 rfl ?_
  simp only [Tryd.ntmps9, List.length_cons, List.length_nil, Nat.reduceAdd, Nat.reduceSub, List.replicate, List.cons_append, List.nil_append]
  refine go ⟨?_⟩
  exact fin
theorem goTheirs : GoFn Tryd.prog 9 := ⟨_, _, Tryd.func9, by kernel_rfl, rfl⟩
theorem ours_p (a : ShS) : APure Tryd.prog 13 [shA a] (shA a) [] := by
  refine apure_of hT Tryd.func13 rfl ?_
  simp only [Tryd.ntmps13, List.length_cons, List.length_nil, Nat.reduceAdd, Nat.reduceSub, List.replicate, List.cons_append, List.nil_append]
  refine go ⟨?_⟩
  exact fin
theorem goOurs : GoFn Tryd.prog 13 := ⟨_, _, Tryd.func13, by kernel_rfl, rfl⟩
theorem low8u (q : Int) (h : 0 ≤ q) : IntKind.u8.wrap (IntKind.u32.wrap ((BitVec.ofInt IntKind.u32.bits q &&& BitVec.ofInt IntKind.u32.bits 255).toNat : Int)) = ((u8of q).toNat : Int) := by
  obtain ⟨m, rfl⟩ : ∃ m : Nat, q = m := ⟨q.toNat, by omega⟩
  rw [mask255, u8of_toNat]; simp only [IntKind.wrap_u8]; omega
theorem fdiv_nn (x : UInt32) (k : Nat) : 0 ≤ (wv x).fdiv (2 ^ k) := by
  rw [Int.fdiv_eq_ediv_of_nonneg _ (Int.le_of_lt (Int.pow_pos (by decide)))]
  exact Int.ediv_nonneg (wv_pos x) (Int.le_of_lt (Int.pow_pos (by decide)))
theorem rshdone_p (s : ShS) (hh : s.h.length = 8) : APure Tryd.prog 16 [shA s] (bytes (shDone s)) [] := by
  refine apure_of hT Tryd.func16 rfl ?_
  simp only [Tryd.ntmps16, List.length_cons, List.length_nil, Nat.reduceAdd, Nat.reduceSub, List.replicate, List.cons_append, List.nil_append]
  unfold shDone
  obtain ⟨h1, h2, h3, h4⟩ := shAs_ok hh
  refine go ⟨?_⟩
  refine cal goRShAs (rshas_p s) ⟨?_⟩
  generalize shAs s = x at *
  refine go ⟨?_⟩
  refine cal goRShPad (rshpad_p x.n) ⟨?_⟩
  refine go ⟨?_⟩
  have hp := shPad_len x.n
  refine cal goRShWrite (rshwrite_p x (shPad x.n) h1 (by omega)) ⟨?_⟩
  have h5 := shWrite_len x (shPad x.n) h1
  generalize shWrite x (shPad x.n) = y at *
  refine go ⟨?_⟩
  refine aw_tell (Tells.nilRow (t := 5) 5 1 rfl rfl) ?_
  simp only [setn, List.length_cons, List.length_nil, Nat.zero_add]
  refine aw_tell (Tells.sel [2, 3] rfl rfl) ?_
  simp only [List.map, ren, idx, nbeq, Nat.reduceBEq, Option.map_some, Option.map_none, Nat.zero_add, Nat.reduceAdd, reno_t]
  refine lp (fun i : {i : Nat // i ≤ 8} => [(6, int i.1), (5, .row 1 1 0 (4 * i.1) none)]) (fun i => [oRSh y, { T := 5, sz := 1, n := 4 * i.1, f := fU8 (wordsB y.h i.1) }]) (fun i => 8 - i.1) ⟨0, by omega⟩ ?_
  rintro ⟨i, hi⟩
  refine go ⟨?_⟩
  refine aw_if rfl (fun h => ?_) (fun h => ?_)
  · refine go ⟨?_⟩
    refine al_pureE hT rfl (x := .lit (.int .u32 (wv (y.h.getD i 0)))) ?_ ?_
    · match i, h with
      | 0, _ | 1, _ | 2, _ | 3, _ | 4, _ | 5, _ | 6, _ | 7, _ => exact ⟨_, rfl, Nat.zero_lt_one, Nat.le_of_ble_eq_true rfl⟩
      | i + 8, h => omega
    refine nz ⟨?_⟩
    refine go ⟨?_⟩
    have m1 : min 24 IntKind.u32.bits = 24 := rfl
    have m2 : min 16 IntKind.u32.bits = 16 := rfl
    have m3 : min 8 IntKind.u32.bits = 8 := rfl
    rw [m1, m2, m3]
    simp only [low8u _ (fdiv_nn _ _), low8u _ (wv_pos _)]
    rw [← u8of_toNat]
    refine app (fU8 (wordsB y.h (i + 1))) hT rfl rfl rfl rfl (fun k hk => ?_) ?_
    · rw [wordsB_succ (by omega)]
      exact appU8 (xs := wordsB y.h i) (ys := word4 (y.h.getD i 0)) (by rw [wordsB_len (by omega)]) rfl rfl k hk
    refine nz ⟨?_⟩
    refine go ⟨?_⟩
    refine je ⟨⟨i + 1, by omega⟩, by simp only; omega, ?_⟩
    exact tel
  obtain rfl : i = 8 := by omega
  refine go ⟨?_⟩
  have e1 : wordsB y.h 8 = (y.h.map word4).flatten := by unfold wordsB; rw [List.take_of_length_le (by omega)]
  have e2 := wordsB_len (h := y.h) (i := 8) (by omega)
  rw [e1] at e2
  rw [e1, ← e2]
  exact fin
theorem goRShDone : GoFn Tryd.prog 16 := ⟨_, _, Tryd.func16, by kernel_rfl, rfl⟩
theorem rshsum_p (b : List UInt8) (hb : b.length ≤ 100000000000) : APure Tryd.prog 18 [bytes b] (bytes (shSum b)) [] := by
  refine apure_of hT Tryd.func18 rfl ?_
  simp only [Tryd.ntmps18, List.length_cons, List.length_nil, Nat.reduceAdd, Nat.reduceSub, List.replicate, List.cons_append, List.nil_append]
  refine go ⟨?_⟩
  refine cal goRShNew rshnew_p ⟨?_⟩
  refine go ⟨?_⟩
  refine cal goRShWrite (rshwrite_p shNew b rfl hb) ⟨?_⟩
  refine go ⟨?_⟩
  refine cal goRShDone (rshdone_p _ (shWrite_len _ _ rfl)) ⟨?_⟩
  refine go ⟨?_⟩
  exact fin
theorem goRShSum : GoFn Tryd.prog 18 := ⟨_, _, Tryd.func18, by kernel_rfl, rfl⟩
end
end Go.Proofs.YthdckgcalooipaaDoor
namespace Go.Proofs.YthdckgcalooipaaDoor
section
open Go.RowKit
set_option linter.unusedVariables false
set_option linter.unusedSimpArgs false
set_option linter.unusedSectionVars false
variable {P : Program} {tab : Tab} {X : Nat → Prop} {H H' : List AObj} {μ μ' : Mu} {w w' : World} {r : Option Nat} {l R : List Oper} {Q : Exit → St → Prop} {σ : St} {o : Oper}
theorem freeze_heap (w : World) (b k : Nat) : (w.freeze ⟨b, k, none⟩ 1).heap = w.heap.modify b fun | .cells c elem (lo, hi) => .cells c elem (if lo == hi then (k, k + 1) else (min lo k, max hi (k + 1))) | o => o := by
  unfold World.freeze
  rw [if_neg (by decide)]
  rfl
theorem al_mark (hT : TabOk P tab) (hw : wantA l σ o = some true) {t e : TypeId} {x : Operand} (ho : o.op = .convert t t x) {i ei : TyI} (hi : tab t = some i) (hk : i.k = .slice e) (he : tab e = some ei) (hek : ei.k = .int .u8) {id n : Nat} {ob : AObj} (hx : σ.ev x = .row id 1 0 n none)
    (hob : nth σ.H id = some ob) (hst : ob.st = 0) (hsz : ob.sz = 1) (hpu : ob.pure = true) (hn : 0 < n) (hle : n ≤ ob.n)
    (next : AL P r l Q R (St.put ⟨σ.s, setn σ.H id { ob with st := 2 }, σ.fg, σ.nb⟩ o.dst (.sl 1 n false ob.f))) : AL P r l Q (o :: R) σ := by
  refine al_mut (H' := setn σ.H id { ob with st := 2 }) (fg := none) hw (fun c hc => by rw [ho] at hc; cases hc) (fun B μ a w hr => ?_) next
  rw [nth_eq] at hob
  have hu := (hT _ _ hi).und
  rw [hk] at hu; simp only [UndOk] at hu
  have heu := (hT _ _ he).und
  rw [hek] at heu; simp only [UndOk] at heu
  have hv := hr.ev x
  rw [hx] at hv
  generalize hg : a.eval x = v at hv
  cases hv with
  | rowNil h hc => omega
  | rowE h hc hoff => exact (hoff rfl).elim
  | row h h2 h3 h4 h5 =>
    rename_i b m c
    obtain ⟨hz, cur, hin⟩ := hr.H.at_ (by rw [nth_eq]; exact hob) (by omega) h
    have hblk := hin.blk
    have hlt := (Array.getElem?_eq_some_iff.1 hblk).1
    let w' := w.freeze ⟨b, cur.size, none⟩ 1
    have hheap : w'.heap = w.heap.modify b _ := freeze_heap w b cur.size
    have hs' : w'.heap.size = w.heap.size := by rw [hheap, Array.size_modify]
    have hoth : ∀ k, k ≠ b → w'.heap[k]? = w.heap[k]? := fun k hkb => by rw [hheap, Array.getElem?_modify, if_neg (Ne.symm hkb)]
    have hcell : ∀ k q u, w.cell? ⟨k, q, none⟩ = some u → w'.cell? ⟨k, q, none⟩ = some u := fun k q u hc => by
      by_cases hkb : k = b
      · subst hkb
        unfold World.cell? at hc ⊢
        rw [hheap, Array.getElem?_modify, if_pos rfl]
        rw [hblk] at hc ⊢
        exact hc
      · exact (World.cell?_of_block (w := w) (hoth k hkb)).trans hc
    have hH' : ∀ (k : Nat) o', (setn σ.H id { ob with st := 2 })[k]? = some o' → (k = id ∧ o'.st = 2) ∨ (k ≠ id ∧ σ.H[k]? = some o') := fun k o' hk' => by
      rw [setn_eq] at hk'
      by_cases hki : k = id
      · subst hki
        rw [List.getElem?_set_self (List.getElem?_eq_some_iff.1 hob).1] at hk'
        injection hk' with hk'; subst hk'; exact .inl ⟨rfl, rfl⟩
      · rw [List.getElem?_set_ne (Ne.symm hki)] at hk'; exact .inr ⟨hki, hk'⟩
    have hoo : ∀ k, OO B.X (setn σ.H id { ob with st := 2 }) μ k → OO B.X σ.H μ k := fun k hk' => hk'.imp (fun h => h) fun ⟨i', o', m', e1, e2, e3⟩ => by
      rcases hH' i' o' e1 with ⟨_, h7⟩ | ⟨_, h7⟩
      · omega
      · exact ⟨i', o', m', h7, e2, e3⟩
    have up : ∀ {ν ν' : Mu} {z : AV} {u : Value}, RV (OO B.X σ.H μ) w ν z u → (∀ i l, ν i = some l → ν' i = some l) → RV (OO B.X (setn σ.H id { ob with st := 2 }) μ) w' ν' z u := fun {ν ν' z u} hz hν => hz.monoC (fun k _ hk' => hoo k hk') (by omega) (fun k _ _ q u hc => hcell k q u hc) ν' hν
    have hnb : ¬ OO B.X (setn σ.H id { ob with st := 2 }) μ b := fun hb => by
      rcases hb with hb | ⟨i', o', m', e1, e2, e3⟩
      · exact (hr.H.lt id b m h).2 hb
      · have := hr.H.inj i' id b m' m e3 h
        subst this
        rcases hH' _ _ e1 with ⟨_, h7⟩ | ⟨h7, _⟩
        · omega
        · exact h7 rfl
    refine ⟨⟨.value (.slice (some ⟨b, 0 * 1, none⟩) n c), .slice (some ⟨b, 0 * 1, none⟩) n c, w', μ, ?_, .inl rfl, ⟨fun i' l hi' => ?_, hr.H.inj, fun i' b' m' hi' => by rw [hs']; exact hr.H.lt i' b' m' hi', fun k o' hk' hs2 => ?_, fun k hk' => by rw [hs']; exact hr.H.xlt k hk', ?_⟩, Ext.refl _ _, ⟨rfl, rfl, rfl, by omega, fun k hk' hn' => hoth k fun hkb => hn' id m (by rw [hkb]; exact h)⟩, ?_, fun k z u hz => ⟨up hz fun _ _ h => h, fun _ => up hz fun _ _ h => h⟩⟩, by simp [setn_eq]⟩
    · have hsh : ({ w with heap := w.heap } : World).shape? b = some (ob.T, cur.size) := by
        unfold World.shape?
        show (match w.heap[b]? with | some (.cells c elem _) => some (elem, c.size) | _ => none) = _
        rw [hblk]
      unfold execOp
      rw [ho]
      simp only [hg, Nat.zero_mul]
      have hsh' : w.shape? b = some (ob.T, cur.size) := hsh
      simp [convert, run_underlying hu, run_underlying heu, markStringish, hsh']
      rfl
    · rw [setn_eq, List.length_set]; exact hr.H.dom i' l hi'
    · rcases hH' k o' hk' with ⟨_, h7⟩ | ⟨hne, h7⟩
      · omega
      · refine (hr.H.obj k o' h7 hs2).monoC (fun k' _ hk'' => hoo k' hk'') (by omega) (fun k' _ _ q u hc => hcell k' q u hc) fun b' m' hb' => hoth b' ?_
        rintro rfl
        exact hne (hr.H.inj k id b' m' m hb' h)
    · refine hr.H.gl.stepC (by omega) (fun k _ _ _ q u hc => hcell k q u hc) (fun _ h => .inl h) fun i' b' m' hi' => .inl ⟨i', m', hi'⟩
    · have hcs : n ≤ cur.size := by rw [hin.size, hsz]; have := hin.nle; omega
      refine .sl (vs := cur.toList.take n) (fun u hu => ?_) h2 (by have := hin.le; omega) (fun h => by cases h) (by simp; omega) (fun k hk' => by rw [hin.flen k (by omega), hsz]) (fun k j z u hk' hz' hu => ?_) (by decide) fun _ => ⟨b, 0, by simp, hnb, fun j u hu => ?_⟩
      · obtain ⟨k, hk'⟩ := List.getElem?_of_mem hu
        have hkn : k < n := by have := (List.getElem?_eq_some_iff.1 hk').1; simp at this; omega
        rw [List.getElem?_take_of_lt hkn] at hk'
        exact hin.one k 0 u (by omega) (by omega) (by rw [hsz]; simpa using hk')
      · have hj : j < 1 := by
          have := hin.flen k (by omega)
          rw [hsz] at this
          rw [← this]; exact (List.getElem?_eq_some_iff.1 hz').1
        obtain rfl : j = 0 := by omega
        rw [List.getElem?_take_of_lt (by omega)] at hu
        have := hin.cell k 0 z u (by omega) hz' (by rw [hsz]; simpa using hu)
        rw [hpu] at this
        exact up this fun _ _ h => h
      · have hjn : j < n := by have := (List.getElem?_eq_some_iff.1 hu).1; simp at this; omega
        rw [List.getElem?_take_of_lt hjn] at hu
        refine hcell b _ _ ?_
        unfold World.cell?
        rw [hblk]
        simpa using hu
end
end Go.Proofs.YthdckgcalooipaaDoor
namespace Go.Proofs.YthdckgcalooipaaDoor
section
open Go.RowKit
attribute [local irreducible] EachR AO IterP RoundP ADr AL AW Then InBlock RetP Tells APure ACall
set_option linter.unusedVariables false
set_option linter.unusedSimpArgs false
set_option maxRecDepth 100000
theorem sw_a : (shSum []).length = 32 ∧ (shSum []).take 4 = (ByteArray.mk #[227, 176, 196, 66]).toList := by decide +kernel
theorem sw_b : (shSum [97, 98, 99]).length = 32 ∧ (shSum [97, 98, 99]).take 4 = (ByteArray.mk #[186, 120, 22, 191]).toList := by decide +kernel
theorem sw_p : (shPad 3).length = 61 := by decide +kernel
theorem sw_oct {A : List UInt8} {l : List UInt8} (h1 : A.length = 32) (h2 : A.take 4 = l) : (octets (cutLen none (some 4) A.length) (cutF none (fU8 A)) == l) = true := by
  rw [octets_cut rfl (by show (4 : Int).toNat ≤ _; rw [h1]; decide)]
  simp only [cutHi, cutLo, List.drop_zero, Int.reduceToNat, h2, beq_self_eq_true]
theorem shawake_p : APure Tryd.prog 7 [] (.lit (.bool true)) [] := by
  refine apure_of hT Tryd.func7 rfl ?_
  simp only [Tryd.ntmps7, List.length_cons, List.length_nil, Nat.reduceAdd, Nat.reduceSub, List.replicate, List.cons_append, List.nil_append]
  refine go ⟨?_⟩
  refine cal goShSum (shsum_p [] (by simp)) ⟨?_⟩
  refine go ⟨?_⟩
  refine al_mark hT rfl rfl rfl rfl rfl rfl rfl rfl rfl rfl rfl (by decide) (Nat.le_refl _) ?_
  refine nz ⟨?_⟩
  refine go ⟨?_⟩
  refine cal goShSum (shsum_p [97, 98, 99] (by simp)) ⟨?_⟩
  have a1 := sw_a; have b1 := sw_b
  generalize shSum [] = A at *
  generalize shSum [97, 98, 99] = B at *
  refine go ⟨?_⟩
  rw [sw_oct a1.1 a1.2]
  refine go ⟨?_⟩
  rw [sw_oct b1.1 b1.2]
  refine go ⟨?_⟩
  refine cal goShPad (shpad_p 3) ⟨?_⟩
  have p1 := sw_p
  generalize shPad 3 = C at *
  refine go ⟨?_⟩
  exact fin
theorem goShAwake : GoFn Tryd.prog 7 := ⟨_, _, Tryd.func7, by kernel_rfl, rfl⟩
theorem shAs_len {s : ShS} (h : s.h.length = 8) : (shAs s).h.length = 8 := (shAs_ok h).1
theorem shais_law (s : ShS) (b : List UInt8) (n : Int) (hh : s.h.length = 8) : APure Tryd.prog 3 [shA s, bytes b, int n] (.lit (.bool true)) [] := by
  refine apure_of hT Tryd.func3 rfl ?_
  simp only [Tryd.ntmps3, List.length_cons, List.length_nil, Nat.reduceAdd, Nat.reduceSub, List.replicate, List.cons_append, List.nil_append]
  refine go ⟨?_⟩
  refine cal goShAwake shawake_p ⟨?_⟩
  refine go ⟨?_⟩
  by_cases h1 : s.buf.length > 1000
  · refine go ⟨?_⟩
    exact fin
  by_cases h2 : b.length > 1000
  · refine go ⟨?_⟩
    exact fin
  have same : ∀ x : ShS, x.h.length = 8 → APure Tryd.prog 8 [shA x, shA x] (.lit (.bool true)) [] := fun x hx => by
    have := rshsame_p x x hx hx; rwa [decide_eq_true rfl] at this
  refine go ⟨?_⟩
  refine cal goShNew shnew_p ⟨?_⟩
  refine go ⟨?_⟩
  refine cal goTheirs (theirs_p shNew) ⟨?_⟩
  refine go ⟨?_⟩
  refine cal goRShNew rshnew_p ⟨?_⟩
  refine go ⟨?_⟩
  refine cal goRShSame (same shNew rfl) ⟨?_⟩
  refine go ⟨?_⟩
  refine cal goOurs (ours_p s) ⟨?_⟩
  refine go ⟨?_⟩
  refine cal goShWrite (shwrite_p s b hh (by omega)) ⟨?_⟩
  refine go ⟨?_⟩
  refine cal goTheirs (theirs_p (shWrite s b)) ⟨?_⟩
  refine go ⟨?_⟩
  refine cal goRShWrite (rshwrite_p s b hh (by omega)) ⟨?_⟩
  refine go ⟨?_⟩
  refine cal goRShSame (same (shWrite s b) (shWrite_len s b hh)) ⟨?_⟩
  refine go ⟨?_⟩
  refine cal goOurs (ours_p s) ⟨?_⟩
  refine go ⟨?_⟩
  refine cal goShDone (shdone_p s hh) ⟨?_⟩
  refine go ⟨?_⟩
  refine cal goRShDone (rshdone_p s hh) ⟨?_⟩
  refine go ⟨?_⟩
  refine cal goShSum (shsum_p b (by omega)) ⟨?_⟩
  refine go ⟨?_⟩
  refine cal goRShSum (rshsum_p b (by omega)) ⟨?_⟩
  refine go ⟨?_⟩
  refine cal goShPad (shpad_p n) ⟨?_⟩
  refine go ⟨?_⟩
  refine cal goRShPad (rshpad_p n) ⟨?_⟩
  refine go ⟨?_⟩
  exact fin
end
end Go.Proofs.YthdckgcalooipaaDoor
namespace Go.Proofs.YthdckgcalooipaaDoor
section
open Go.RowKit
attribute [local irreducible] EachR AO IterP RoundP ADr AL AW Then InBlock RetP Tells APure ACall
set_option linter.unusedVariables false
set_option linter.unusedSimpArgs false
set_option maxRecDepth 100000
/-! plain laws -/
theorem shWhole_app : ∀ (k : Nat) (h : List UInt32) (a b : List UInt8), a.length ≤ k → shWhole h (a ++ b) = shWhole (shWhole h a).1 ((shWhole h a).2 ++ b)
  | 0, h, a, b, hk => by
    have : a = [] := List.eq_nil_of_length_eq_zero (by omega)
    subst this; rw [shWhole_done (b := []) (by simp)]
  | k + 1, h, a, b, hk => by
    by_cases h64 : 64 ≤ a.length
    · rw [shWhole_step (b := a ++ b) (by simp; omega), shWhole_step (b := a) h64, List.take_append_of_le_length h64, List.drop_append_of_le_length h64]
      exact shWhole_app k _ _ _ (by simp; omega)
    · rw [shWhole_done (b := a) (by omega)]
theorem shWhole_rest : ∀ (k : Nat) (h : List UInt32) (b : List UInt8), b.length ≤ k → (shWhole h b).2.length = b.length % 64
  | 0, h, b, hk => by rw [shWhole_done (by omega)]; show b.length = _; omega
  | k + 1, h, b, hk => by
    by_cases h64 : 64 ≤ b.length
    · rw [shWhole_step h64, shWhole_rest k _ _ (by simp; omega), List.length_drop]; omega
    · rw [shWhole_done (by omega)]; show b.length = _; omega
theorem shWhole_len (h : List UInt32) (b : List UInt8) (hh : h.length = 8) : (shWhole h b).1.length = 8 := shFold_len _ _ _ hh
/-- A state that counts as itself. -/
def shOk (s : ShS) : Prop := s.buf.length < 64 ∧ 0 ≤ s.n ∧ s.n ≤ 1125899906842624
theorem shAs_id {s : ShS} (h : shOk s) : shAs s = s := if_neg (by unfold shOk at h; omega)
theorem shNew_ok : shOk shNew := ⟨by decide, by decide, by decide⟩
theorem shWrite_eq {s : ShS} (h : shOk s) {b : List UInt8} (hb : s.n + b.length ≤ 1125899906842624) : shWrite s b = ⟨(shWhole s.h (s.buf ++ b)).1, (shWhole s.h (s.buf ++ b)).2, s.n + b.length⟩ := by
  unfold shWrite; rw [shAs_id h, if_neg (by omega)]
theorem shWrite_ok {s : ShS} (h : shOk s) {b : List UInt8} (hb : s.n + b.length ≤ 1125899906842624) : shOk (shWrite s b) := by
  rw [shWrite_eq h hb]
  exact ⟨by show (shWhole _ _).2.length < 64; rw [shWhole_rest _ _ _ (Nat.le_refl _)]; omega, by show (0 : Int) ≤ s.n + b.length; have := h.2.1; omega, hb⟩
theorem shWrite_two {s : ShS} (h : shOk s) {a b : List UInt8} (hb : s.n + a.length + b.length ≤ 1125899906842624) : shWrite (shWrite s a) b = shWrite s (a ++ b) := by
  rw [shWrite_eq (shWrite_ok h (by omega)) (by rw [shWrite_eq h (by omega)]; exact hb), shWrite_eq h (by omega), shWrite_eq h (by simp; omega)]
  simp only
  rw [← List.append_assoc, ← shWhole_app _ s.h (s.buf ++ a) b (Nat.le_refl _)]
  simp only [List.length_append, Int.natCast_add]
  rw [Int.add_assoc]
theorem shDone_len {s : ShS} (hh : s.h.length = 8) : (shDone s).length = 32 := by
  unfold shDone
  have h1 := shWrite_len (shAs s) (shPad (shAs s).n) (shAs_ok hh).1
  have h2 := wordsB_len (h := (shWrite (shAs s) (shPad (shAs s).n)).h) (i := 8) (by omega)
  unfold wordsB at h2
  rw [List.take_of_length_le (by omega)] at h2
  exact h2
theorem shaparts_law (b : List UInt8) (i k : Int) : APure Tryd.prog 4 [bytes b, int i, int k] (.lit (.bool true)) [] := by
  refine apure_of hT Tryd.func4 rfl ?_
  simp only [Tryd.ntmps4, List.length_cons, List.length_nil, Nat.reduceAdd, Nat.reduceSub, List.replicate, List.cons_append, List.nil_append]
  refine go ⟨?_⟩
  refine cal goShAwake shawake_p ⟨?_⟩
  refine go ⟨?_⟩
  by_cases h1 : b.length > 1000
  · refine go ⟨?_⟩
    exact fin
  have mi := and_mask i 16 (by decide)
  have mk := and_mask k 16 (by decide)
  rw [show ((2 : Int) ^ 16 - 1) = 65535 from rfl] at mi mk
  refine go ⟨?_⟩
  have e1 : IntKind.i64.wrap ((b.length : Int) + 1) = b.length + 1 := by simp only [IntKind.wrap_i64]; omega
  rw [mi, e1]
  refine al_pure hT rfl rfl ⟨rfl, by omega⟩ ?_
  obtain ⟨p, hp, hpl⟩ : ∃ p : Nat, (i % 2 ^ 16).tmod ((b.length : Int) + 1) = (p : Int) ∧ p ≤ b.length := by
    have h0 : 0 ≤ i % 2 ^ 16 := by omega
    rw [Int.tmod_eq_emod_of_nonneg h0]
    have h2 := Int.emod_nonneg (i % 2 ^ 16) (show (b.length : Int) + 1 ≠ 0 by omega)
    have h3 := Int.emod_lt_of_pos (i % 2 ^ 16) (show (0 : Int) < (b.length : Int) + 1 by omega)
    exact ⟨((i % 2 ^ 16) % ((b.length : Int) + 1)).toNat, by omega, by omega⟩
  rw [hp]
  refine nz ⟨?_⟩
  refine go ⟨?_⟩
  have e2 : IntKind.i64.wrap (IntKind.i64.wrap ((b.length : Int) - (p : Int)) + 1) = (b.length : Int) - (p : Int) + 1 := by simp only [IntKind.wrap_i64]; omega
  rw [mk, e2]
  refine al_pure hT rfl rfl ⟨rfl, by omega⟩ ?_
  obtain ⟨q, hq, hql⟩ : ∃ q : Nat, (k % 2 ^ 16).tmod ((b.length : Int) - (p : Int) + 1) = (q : Int) ∧ p + q ≤ b.length := by
    have h0 : 0 ≤ k % 2 ^ 16 := by omega
    rw [Int.tmod_eq_emod_of_nonneg h0]
    have h2 := Int.emod_nonneg (k % 2 ^ 16) (show (b.length : Int) - p + 1 ≠ 0 by omega)
    have h3 := Int.emod_lt_of_pos (k % 2 ^ 16) (show (0 : Int) < (b.length : Int) - p + 1 by omega)
    exact ⟨((k % 2 ^ 16) % ((b.length : Int) - p + 1)).toNat, by omega, by omega⟩
  rw [hq]
  refine nz ⟨?_⟩
  refine go ⟨?_⟩
  have e3 : IntKind.i64.wrap ((p : Int) + (q : Int)) = ((p + q : Nat) : Int) := by simp only [IntKind.wrap_i64]; omega
  simp only [e3]
  have hpm : p ≤ p + q := by omega
  generalize p + q = m at *
  refine cal goShNew shnew_p ⟨?_⟩
  refine go ⟨?_⟩
  refine cal goShWrite (shwrite_p shNew (b.take p) rfl (by simp; omega)) ⟨?_⟩
  refine go ⟨?_⟩
  have l1 : (shWrite shNew (b.take p)).h.length = 8 := shWrite_len _ _ rfl
  refine cal goShWrite (shwrite_p (shWrite shNew (b.take p)) ((b.take m).drop p) l1 (by simp; omega)) ⟨?_⟩
  refine go ⟨?_⟩
  have l2 : (shWrite (shWrite shNew (b.take p)) ((b.take m).drop p)).h.length = 8 := shWrite_len _ _ l1
  refine cal goShWrite (shwrite_p (shWrite (shWrite shNew (b.take p)) ((b.take m).drop p)) (b.drop m) l2 (by simp; omega)) ⟨?_⟩
  have hn0 : shNew.n = 0 := rfl
  have ht : b.take p ++ (b.take m).drop p = b.take m := by
    have := List.take_append_drop p (b.take m)
    rwa [List.take_take, Nat.min_eq_left (by omega)] at this
  have hw : shWrite (shWrite (shWrite shNew (b.take p)) ((b.take m).drop p)) (b.drop m) = shWrite shNew b := by
    rw [shWrite_two shNew_ok (by rw [hn0]; simp; omega), ht, shWrite_two shNew_ok (by rw [hn0]; simp; omega), List.take_append_drop]
  rw [hw]
  have hn : (shWrite shNew b).n = b.length := by rw [shWrite_eq shNew_ok (by rw [hn0]; omega)]; show shNew.n + (b.length : Int) = _; rw [hn0]; omega
  have hbf : (shWrite shNew b).buf.length = b.length % 64 := by
    rw [shWrite_eq shNew_ok (by rw [hn0]; omega)]
    show (shWhole shNew.h (shNew.buf ++ b)).2.length = _
    rw [shWhole_rest _ _ _ (Nat.le_refl _)]; rfl
  have hd : shDone (shWrite shNew b) = shSum b := rfl
  have l3 : (shWrite shNew b).h.length = 8 := shWrite_len _ _ rfl
  have hdl := shDone_len l3
  generalize hS : shWrite shNew b = S at *
  refine go ⟨?_⟩
  refine cal goShNew shnew_p ⟨?_⟩
  refine go ⟨?_⟩
  refine cal goShWrite (shwrite_p shNew b rfl (by omega)) ⟨?_⟩
  rw [hS]
  refine go ⟨?_⟩
  refine cal goTheirs (theirs_p S) ⟨?_⟩
  refine go ⟨?_⟩
  refine cal goTheirs (theirs_p S) ⟨?_⟩
  refine go ⟨?_⟩
  have same := rshsame_p S S l3 l3
  rw [decide_eq_true rfl] at same
  refine cal goRShSame same ⟨?_⟩
  refine go ⟨?_⟩
  refine cal goShDone (shdone_p S l3) ⟨?_⟩
  refine go ⟨?_⟩
  refine cal goShSum (shsum_p b (by omega)) ⟨?_⟩
  refine go ⟨?_⟩
  rw [hd]
  refine go ⟨?_⟩
  refine cal goShDone (shdone_p S l3) ⟨?_⟩
  refine go ⟨?_⟩
  have e4 : (b.length : Int).tmod 64 = ((b.length % 64 : Nat) : Int) := by rw [Int.tmod_eq_emod_of_nonneg (by omega)]; omega
  simp only [hdl, hn, hbf, e4, beq_self_eq_true, cond_true]
  exact fin
end
end Go.Proofs.YthdckgcalooipaaDoor
namespace Go.Proofs.YthdckgcalooipaaDoor
section
open Go.RowKit
attribute [local irreducible] EachR AO IterP RoundP ADr AL AW Then InBlock RetP Tells APure ACall
set_option linter.unusedVariables false
set_option linter.unusedSimpArgs false
set_option maxRecDepth 100000
theorem shpad_zero {n : Int} {i : Nat} (h1 : 1 ≤ i) (h2 : i < (padH n).length) : (padH n ++ padB n 8).getD i 0 = 0 := by
  rw [List.getD_eq_getElem?_getD, List.getElem?_append_left h2]
  obtain ⟨j, rfl⟩ : ∃ j, i = j + 1 := ⟨i - 1, by omega⟩
  show ((List.replicate ((119 - n % 64) % 64).toNat (0 : UInt8))[j]?).getD 0 = 0
  rw [padH_len] at h2
  rw [List.getElem?_replicate, if_pos (by omega)]; rfl
theorem shpad_last {n : Int} {j : Nat} (h : j < 8) : (padH n ++ padB n 8).getD ((padH n).length + j) 0 = u8of ((8 * n).fdiv (2 ^ (8 * (7 - j)))) := by
  rw [List.getD_eq_getElem?_getD, List.getElem?_append_right (by omega), Nat.add_sub_cancel_left]
  unfold padB
  simp [h]
theorem fdiv_step {X : Int} (h : 0 ≤ X) {j : Nat} (hj : j < 8) : X.fdiv (2 ^ (8 * (8 - j))) * 256 + X.fdiv (2 ^ (8 * (7 - j))) % 256 = X.fdiv (2 ^ (8 * (7 - j))) := by
  have p1 : (0 : Int) < 2 ^ (8 * (7 - j)) := Int.pow_pos (by decide)
  have p2 : (0 : Int) < 2 ^ (8 * (8 - j)) := Int.pow_pos (by decide)
  rw [Int.fdiv_eq_ediv_of_nonneg _ (Int.le_of_lt p1), Int.fdiv_eq_ediv_of_nonneg _ (Int.le_of_lt p2)]
  have e : (2 : Int) ^ (8 * (8 - j)) = 2 ^ (8 * (7 - j)) * 256 := by
    rw [show 8 * (8 - j) = 8 * (7 - j) + 8 by omega, Int.pow_add]; rfl
  rw [e, ← Int.ediv_ediv_of_nonneg (Int.le_of_lt p1)]
  omega
theorem fdiv_le {X : Int} (h : 0 ≤ X) (k : Nat) : 0 ≤ X.fdiv (2 ^ k) ∧ X.fdiv (2 ^ k) ≤ X := by
  have p1 : (0 : Int) < 2 ^ k := Int.pow_pos (by decide)
  rw [Int.fdiv_eq_ediv_of_nonneg _ (Int.le_of_lt p1)]
  exact ⟨Int.ediv_nonneg h (Int.le_of_lt p1), Int.ediv_le_self _ h⟩
theorem shapad_law (n : Int) : APure Tryd.prog 5 [int n] (.lit (.bool true)) [] := by
  refine apure_of hT Tryd.func5 rfl ?_
  simp only [Tryd.ntmps5, List.length_cons, List.length_nil, Nat.reduceAdd, Nat.reduceSub, List.replicate, List.cons_append, List.nil_append]
  refine go ⟨?_⟩
  refine cal goShAwake shawake_p ⟨?_⟩
  refine go ⟨?_⟩
  refine cal goShPad (shpad_p n) ⟨?_⟩
  refine go ⟨?_⟩
  by_cases h0 : n < 0
  · rw [show shPad n = [] from if_pos (.inl h0)]
    refine go ⟨?_⟩
    exact fin
  by_cases h1 : n > 1125899906842624
  · rw [show shPad n = [] from if_pos (.inr h1)]
    refine go ⟨?_⟩
    exact fin
  rw [shPad_eq (by omega) (by omega)]
  have hL : (padH n ++ padB n 8).length = (padH n).length + 8 := by simp [padB_len]
  have hz : ∀ i, 1 ≤ i → i < (padH n).length → (padH n ++ padB n 8).getD i 0 = 0 := fun i => shpad_zero
  have hlast : ∀ j, j < 8 → (padH n ++ padB n 8).getD ((padH n).length + j) 0 = u8of ((8 * n).fdiv (2 ^ (8 * (7 - j)))) := fun j => shpad_last
  have hh0 : (padH n ++ padB n 8).getD 0 0 = 128 := rfl
  have hK := padH_len n
  generalize padH n ++ padB n 8 = A at *
  generalize (padH n).length = K at *
  refine go ⟨?_⟩
  have t1 : (IntKind.i64.wrap (n + (A.length : Int))).tmod 64 = 0 := by
    have : IntKind.i64.wrap (n + (A.length : Int)) = n + A.length := by simp only [IntKind.wrap_i64]; omega
    rw [this, Int.tmod_eq_emod_of_nonneg (by omega)]; omega
  rw [t1, show ((0 : Int) != 0) = false from rfl]
  refine go ⟨?_⟩
  simp only [hh0]
  refine go ⟨?_⟩
  refine lp (fun i : {i : Nat // 1 ≤ i ∧ i ≤ K} => [(5, int i.1), (2, .lit (.bool false))]) (fun _ => []) (fun i => K - i.1) ⟨1, by omega⟩ ?_
  rintro ⟨i, hi1, hi2⟩
  have t2 : IntKind.i64.wrap ((A.length : Int) - 8) = K := by simp only [IntKind.wrap_i64]; omega
  refine go ⟨?_⟩
  simp only [t2]
  by_cases hlt : i < K
  · refine go ⟨?_⟩
    simp only [hz i hi1 hlt]
    refine go ⟨?_⟩
    refine je ⟨⟨i + 1, by omega⟩, by simp only; omega, ?_⟩
    exact tel
  refine go ⟨?_⟩
  simp only [t2]
  refine lp (fun j : {j : Nat // j ≤ 8} => [(7, int ((K + j.1 : Nat) : Int)), (6, int ((8 * n).fdiv (2 ^ (8 * (8 - j.1)))))]) (fun _ => []) (fun j => 8 - j.1) ⟨0, by omega⟩ ?_ (h0 := ?_)
  rotate_left
  · have : (8 * n).fdiv (2 ^ (8 * (8 - 0))) = 0 := by
      rw [Int.fdiv_eq_ediv_of_nonneg _ (by decide)]
      show (8 * n) / 18446744073709551616 = 0
      omega
    simp only [lst, junkL, setsL, setn, this]
    exact Tells.le (by exact les) .nil
  rintro ⟨j, hj⟩
  refine go ⟨?_⟩
  by_cases hlt : j < 8
  · have t3 : (K + j : Nat) < A.length := by omega
    refine go ⟨?_⟩
    simp only [Int.toNat_natCast, hlast j hlt, u8of_toNat]
    have t4 : IntKind.i64.wrap (IntKind.i64.wrap ((8 * n).fdiv (2 ^ (8 * (8 - j))) * 256) + IntKind.i64.wrap (IntKind.u8.wrap ((8 * n).fdiv (2 ^ (8 * (7 - j)))))) = (8 * n).fdiv (2 ^ (8 * (8 - (j + 1)))) := by
      have f1 := fdiv_step (X := 8 * n) (by omega) hlt
      have f2 := fdiv_le (X := 8 * n) (by omega) (8 * (8 - j))
      have f3 := fdiv_le (X := 8 * n) (by omega) (8 * (7 - j))
      rw [show 8 - (j + 1) = 7 - j by omega]
      generalize (8 * n).fdiv (2 ^ (8 * (8 - j))) = u at *
      generalize (8 * n).fdiv (2 ^ (8 * (7 - j))) = v at *
      simp only [IntKind.wrap_i64, IntKind.wrap_u8]
      omega
    have t5 : IntKind.i64.wrap (((K + j : Nat) : Int) + 1) = ((K + (j + 1) : Nat) : Int) := by simp only [IntKind.wrap_i64]; omega
    simp only [t4, t5]
    refine je ⟨⟨j + 1, by omega⟩, by simp only; omega, ?_⟩
    exact tel
  · obtain rfl : j = 8 := by omega
    have t6 : (8 * n).fdiv (2 ^ (8 * (8 - 8))) = 8 * n := by
      rw [Int.fdiv_eq_ediv_of_nonneg _ (by decide)]; simp
    have t7 : IntKind.i64.wrap (8 * n) = 8 * n := by simp only [IntKind.wrap_i64]; omega
    rw [t6]
    refine go ⟨?_⟩
    simp only [t7, beq_self_eq_true]
    exact fin
theorem arrEq_c8u {a b : List UInt32} (ha : a.length = 8) (hb : b.length = 8) : arrEq 8 (fun k => [(w8C a).getD k AV.junk]) (fU32 b) = (a == b) := by
  rw [← arrEq_u32 ha hb]
  unfold arrEq
  rw [decide_eq_decide]
  exact ⟨fun h k hk => by rw [← c8_at a k hk]; exact h k hk, fun h k hk => by rw [c8_at a k hk]; exact h k hk⟩
theorem shafolds_law (b : List UInt8) : APure Tryd.prog 6 [bytes b] (.lit (.bool true)) [] := by
  refine apure_of hT Tryd.func6 rfl ?_
  simp only [Tryd.ntmps6, List.length_cons, List.length_nil, Nat.reduceAdd, Nat.reduceSub, List.replicate, List.cons_append, List.nil_append]
  refine go ⟨?_⟩
  refine cal goShAwake shawake_p ⟨?_⟩
  refine go ⟨?_⟩
  by_cases h1 : b.length > 1000
  · refine go ⟨?_⟩
    exact fin
  refine go ⟨?_⟩
  refine cal goBFirst bfirst_p ⟨?_⟩
  refine go ⟨?_⟩
  refine lp (fun p : {p : List UInt32 × List UInt8 // p.1.length = 8 ∧ p.2.length ≤ b.length ∧ shWhole p.1 p.2 = shWhole firsts b} => [(5, bytes p.1.2)]) (fun p => [{ T := 23, sz := 1, n := 8, f := fU32 p.1.1 }]) (fun p => p.1.2.length) ⟨(firsts, b), rfl, Nat.le_refl _, rfl⟩ ?_
  rintro ⟨⟨g, r⟩, g1, g2, g3⟩
  simp only at g1 g2 g3
  refine go ⟨?_⟩
  refine aw_if rfl (fun h => ?_) (fun h => ?_)
  · refine go ⟨?_⟩
    refine lp (fun i : {i : Nat // i ≤ 64} => [(7, int i.1)]) (fun i => [{ T := 23, sz := 1, n := 8, f := fU32 g }, { T := 44, sz := 1, n := 64, f := cpF r i.1 }]) (fun i => 64 - i.1) ⟨0, by omega⟩ ?_
    rintro ⟨i, hi⟩
    refine go ⟨?_⟩
    refine aw_if rfl (fun h => ?_) (fun h => ?_)
    · refine go ⟨?_⟩
      refine je ⟨⟨i + 1, by omega⟩, by simp only; omega, ?_⟩
      simp only [lst, junkL, setsL, setn]
      refine Tells.le (by exact les) (.cons (.refl _) (.cons (.of (Nat.le_refl _) (fun h => h) fun k hk => ?_) .nil))
      rw [cpF_drop]
      exact cpF_succ r i k
    obtain rfl : i = 64 := by omega
    refine aw_tell (Tells.objf 1 (fU8 (r.take 64)) rfl fun k hk => ?_) ?_
    · have hk : k < 64 := hk
      refine Eq.trans ?_ (cpF_done hk).symm
      simp [fU8, List.getD_eq_getElem?_getD, List.getElem?_take_of_lt hk]
    simp only [setn]
    refine go ⟨?_⟩
    refine calL goBMix (bmix_p g (r.take 64) g1 (by simp; omega)) (les2 (AV.Le.refl (w8A g)) (AV.Le.refl (b64A (r.take 64)))) ⟨?_⟩
    refine al_store hT rfl rfl rfl ⟨⟨rfl, rfl⟩, fun h => by cases h⟩ ?_
    refine nz ⟨?_⟩
    refine go ⟨?_⟩
    refine je ⟨⟨(mix g (r.take 64), r.drop 64), mix_len _ _ g1, by show (r.drop 64).length ≤ b.length; rw [List.length_drop]; omega, (shWhole_step (by omega)).symm.trans g3⟩, by show (r.drop 64).length < r.length; rw [List.length_drop]; omega, ?_⟩
    simp only [lst, junkL, setsL, setn]
    exact (Tells.sel [0] rfl rfl).trans (Tells.le (by exact les) (by exact leh))
  rw [shWhole_done (by omega)] at g3
  have hn0 : shNew.n = 0 := rfl
  have hS : shWrite shNew b = ⟨g, r, b.length⟩ := by
    rw [shWrite_eq shNew_ok (by rw [hn0]; omega)]
    show ShS.mk (shWhole firsts b).1 (shWhole firsts b).2 (0 + (b.length : Int)) = _
    rw [← g3]; simp
  have hW : shWrite (shWrite shNew b) [] = shWrite shNew b := by
    rw [shWrite_two shNew_ok (by rw [hn0]; simp only [List.length_nil]; omega), List.append_nil]
  refine go ⟨?_⟩
  refine cal goShNew shnew_p ⟨?_⟩
  refine go ⟨?_⟩
  refine cal goShWrite (shwrite_p shNew b rfl (by omega)) ⟨?_⟩
  refine go ⟨?_⟩
  have l3 : (shWrite shNew b).h.length = 8 := shWrite_len _ _ rfl
  have hh : ((shWrite shNew b).h == g) = true := by rw [hS]; simp
  have hb2 : ((shWrite shNew b).buf == r) = true := by rw [hS]; simp
  generalize shWrite shNew b = S at *
  refine ad_pure hT rfl rfl ⟨isInts_c8 S.h, isInts_u32 8 g⟩ ?_
  rw [arrEq_c8u l3 g1, hh]
  refine nz ⟨?_⟩
  refine go ⟨?_⟩
  rw [hb2]
  refine go ⟨?_⟩
  refine cal goShWrite (shwrite_p S [] l3 (by simp)) ⟨?_⟩
  rw [hW]
  refine go ⟨?_⟩
  refine cal goTheirs (theirs_p S) ⟨?_⟩
  refine go ⟨?_⟩
  refine cal goTheirs (theirs_p S) ⟨?_⟩
  refine go ⟨?_⟩
  have same := rshsame_p S S l3 l3
  rw [decide_eq_true rfl] at same
  refine cal goRShSame same ⟨?_⟩
  refine go ⟨?_⟩
  exact fin
end
end Go.Proofs.YthdckgcalooipaaDoor
namespace Go.Proofs.YthdckgcalooipaaDoor
section
open Go.RowKit
set_option linter.unusedVariables false
set_option linter.unusedSimpArgs false
/-- A datum of type t reads as one of kind d. -/
def Opens {α : Type} (P : Program) (t : TypeId) (d : Kd α) : Prop :=
  ∀ {H : Type} (enc : TypeId × Value → H) (w : World) (base : Nat) (sp : Nat → Bool) (held : Bool) (fuel : Nat) (cs : List Value) (x : DataW H × List MemPlace), DataW.trod enc P w base sp held fuel t cs = some x → ∃ y, d.rel w (fun _ => False) y cs
section
variable {P : Program} {t e : TypeId}
theorem opens_u8 (ht : P.underlying t = some (.int .u8)) : Opens P t kU8 := by
  intro H enc w base sp held fuel cs x h
  obtain ⟨n, rfl, _, hw⟩ := DataW.trod_int ht h
  refine ⟨UInt8.ofNat n.toNat, ?_⟩
  simp [Lit.wf, IntKind.min, IntKind.max, IntKind.signed, IntKind.bits] at hw
  show [Value.int .u8 n] = [Value.int .u8 ((UInt8.ofNat n.toNat).toNat : Int)]
  rw [UInt8.toNat_ofNat']
  have : ((n.toNat % 2 ^ 8 : Nat) : Int) = n := by omega
  rw [this]
theorem opens_i64 (ht : P.underlying t = some (.int .i64)) : Opens P t kI64 := by
  intro H enc w base sp held fuel cs x h
  obtain ⟨n, rfl, _, _⟩ := DataW.trod_int ht h
  exact ⟨n, rfl⟩
theorem opens_bool (ht : P.underlying t = some .bool) : Opens P t kBool := by
  intro H enc w base sp held fuel cs x h
  obtain ⟨n, rfl, _⟩ := DataW.trod_bool ht h
  exact ⟨n, rfl⟩
theorem reps_of {α : Type} {d : Kd α} {w : World} {O : Nat → Prop} {a : Addr} : ∀ (n o : Nat), (∀ i, i < n → ∃ cs y, cs.length = d.sz ∧ (∀ j, j < d.sz → w.cell? (a.add (o + i * d.sz + j)) = cs[j]?) ∧ d.rel w O y cs) →
    ∃ (ys : List α) (cs : List Value), ys.length = n ∧ Reps d w O ys cs ∧ ∀ j u, cs[j]? = some u → w.cell? (a.add (o + j)) = some u
  | 0, o, _ => ⟨[], [], rfl, rfl, fun j u h => by simp at h⟩
  | n + 1, o, h => by
    obtain ⟨c, y, hl, hc, hr⟩ := h 0 (by omega)
    obtain ⟨ys, cs, h1, h2, h3⟩ := reps_of n (o + d.sz) (fun i hi => by
      obtain ⟨c, y, hl, hc, hr⟩ := h (i + 1) (by omega)
      refine ⟨c, y, hl, fun j hj => ?_, hr⟩
      rw [← hc j hj]
      congr 2
      rw [Nat.add_mul]
      omega)
    refine ⟨y :: ys, c ++ cs, by simp [h1], ⟨c, cs, rfl, hr, h2⟩, fun j u hu => ?_⟩
    by_cases hj : j < d.sz
    · rw [List.getElem?_append_left (by omega)] at hu
      have := hc j hj
      simp only [Nat.zero_mul, Nat.add_zero] at this
      rw [this]; exact hu
    · rw [List.getElem?_append_right (by omega)] at hu
      have := h3 _ u hu
      rw [hl] at this
      rw [show o + j = o + d.sz + (j - d.sz) by omega]
      exact this
theorem opens_sl {α : Type} {d : Kd α} (hs : 0 < d.sz) (ht : P.underlying t = some (.slice e)) (hc : P.cellsOf e = d.sz) (he : Opens P e d) : Opens P t (d.sl hs) := by
  intro H enc w base sp held fuel cs x h
  rcases DataW.trod_slice ht h with ⟨rfl, _⟩ | ⟨a, len, cap, elems, rest, n, _, rfl, _, hb, hl, hm, hlen, hel, _⟩
  · exact ⟨[], _, rfl, Sl.nil_ _ _ _⟩
  · obtain ⟨ys, cs, h1, h2, h3⟩ := reps_of (d := d) (w := w) (O := fun _ => False) (a := a) len 0 (fun i hi => by
      have h1 := hel i hi
      rw [List.getElem?_eq_getElem (by omega)] at h1
      obtain ⟨c, hcells, htr⟩ := Option.bind_eq_some_iff.1 h1
      obtain ⟨y, hy⟩ := he enc w base sp held n c _ htr
      obtain ⟨_, hcl, hcj⟩ := World.cells?_some hcells
      rw [hc] at hcl hcj
      refine ⟨c, y, hcl, fun j hj => ?_, hy⟩
      rw [← hcj j hj, addr_add, Nat.zero_add])
    subst h1
    exact ⟨ys, _, rfl, some a, cap, rfl, hl, hm, fun _ => ⟨a, cs, rfl, fun h => h, h2, fun j u hu => by have := h3 j u hu; rwa [Nat.zero_add] at this⟩⟩
end
/-- An argument that is a slice. -/
theorem arg_sl {H : Type} {enc : TypeId × Value → H} {P : Program} {w : World} {base : Nat} {sp : Nat → Bool} {held : Bool} {t : TypeId} {A : Option Addr} {n c : Nat} {dd : DataW H} {ps : List MemPlace} {α : Type} {d : Kd α} {hs : 0 < d.sz} (ho : Opens P t (d.sl hs))
    (h : DataW.Trod enc P w base sp held t (.slice A n c) dd ps) : ∃ xs, Sl d w (fun _ => False) (.slice A n c) xs := by
  obtain ⟨fuel, h⟩ := h
  obtain ⟨xs, u, hu, hsl⟩ := ho enc w base sp held fuel _ _ h
  have : Value.slice A n c = u := by simpa [Value.cells] using hu
  exact ⟨xs, this ▸ hsl⟩
end
end Go.Proofs.YthdckgcalooipaaDoor
namespace Go.Proofs.YthdckgcalooipaaDoor
section
open Go.RowKit Go.WideShapes
set_option linter.unusedVariables false
set_option linter.unusedSimpArgs false
theorem all_enc {α : Type} (enc : α → Value) : ∀ (L : List Value), (∀ v ∈ L, ∃ y, v = enc y) → ∃ l : List α, L = l.map enc
  | [], _ => ⟨[], rfl⟩
  | v :: L, h => by
    obtain ⟨y, hy⟩ := h v (by simp)
    obtain ⟨l, hl⟩ := all_enc enc L fun u hu => h u (by simp [hu])
    exact ⟨y :: l, by rw [hy, hl]; rfl⟩
theorem arg_arr {H : Type} {enc : TypeId × Value → H} {P : Program} {w : World} {base : Nat} {sp : Nat → Bool} {held : Bool} {t e : TypeId} {n : Nat} {v : Value} {dd : DataW H} {ps : List MemPlace} {α : Type} (f : α → Value)
    (ho : ∀ (fuel : Nat) (cs : List Value) (x : DataW H × List MemPlace), DataW.trod enc P w base sp held fuel e cs = some x → ∃ y, cs = [f y])
    (ht : P.underlying t = some (.array n e)) (hce : P.cellsOf e = 1) (hct : P.cellsOf t = n) {r : Reach} {b0 : Nat} (hv : Value.okWide P w r b0 t v)
    (h : DataW.Trod enc P w base sp held t v dd ps) : ∃ l : List α, v = .agg (l.map f).toArray ∧ l.length = n := by
  simp only [Value.okWide, ht] at hv
  obtain ⟨cs, rfl, hsz, _⟩ := hv
  obtain ⟨fuel, h⟩ := h
  obtain ⟨xs, m, _, _, hl, hxs, hel⟩ := DataW.trod_array ht h
  rw [hct] at hsz
  obtain ⟨l, hL⟩ := all_enc f cs.toList fun u hu => by
    obtain ⟨i, hi⟩ := List.getElem?_of_mem hu
    have hlt : i < n := by have := (List.getElem?_eq_some_iff.1 hi).1; simp at this; omega
    have h1 := hel i hlt
    rw [hce, List.getElem?_eq_getElem (by omega)] at h1
    obtain ⟨y, hy⟩ := ho _ _ _ h1
    refine ⟨y, ?_⟩
    simp only [Value.cells, Nat.mul_one] at hy
    have h2 := congrArg (·[0]?) hy
    simp [List.getElem?_take, List.getElem?_drop] at h2
    rw [show cs.toList[i]? = cs[i]? by simp] at hi
    rw [hi] at h2
    exact Option.some.inj h2
  refine ⟨l, ?_, ?_⟩
  · rw [← hL]
  · have := congrArg List.length hL
    simp at this; omega
theorem num_u32 {H : Type} {enc : TypeId × Value → H} {P : Program} {w : World} {base : Nat} {sp : Nat → Bool} {held : Bool} {e : TypeId} (he : P.underlying e = some (.int .u32)) (fuel : Nat) (cs : List Value) (x : DataW H × List MemPlace)
    (h : DataW.trod enc P w base sp held fuel e cs = some x) : ∃ y : UInt32, cs = [.int .u32 (wv y)] := by
  obtain ⟨n, rfl, _, hw⟩ := DataW.trod_int he h
  refine ⟨UInt32.ofNat n.toNat, ?_⟩
  simp [Lit.wf, IntKind.min, IntKind.max, IntKind.signed, IntKind.bits] at hw
  have : wv (UInt32.ofNat n.toNat) = n := by unfold wv; rw [UInt32.toNat_ofNat']; omega
  rw [this]
theorem num_u8 {H : Type} {enc : TypeId × Value → H} {P : Program} {w : World} {base : Nat} {sp : Nat → Bool} {held : Bool} {e : TypeId} (he : P.underlying e = some (.int .u8)) (fuel : Nat) (cs : List Value) (x : DataW H × List MemPlace)
    (h : DataW.trod enc P w base sp held fuel e cs = some x) : ∃ y : UInt8, cs = [.int .u8 y.toNat] := by
  obtain ⟨n, rfl, _, hw⟩ := DataW.trod_int he h
  refine ⟨UInt8.ofNat n.toNat, ?_⟩
  simp [Lit.wf, IntKind.min, IntKind.max, IntKind.signed, IntKind.bits] at hw
  have : (((UInt8.ofNat n.toNat).toNat : Nat) : Int) = n := by rw [UInt8.toNat_ofNat']; omega
  rw [this]
theorem gTab : Tryd.prog.globalNamed "cordwood/block.numbers" = some 0 := by kernel_rfl
theorem gTabType : (Tryd.prog.globals[0]?).map (·.type) = some 53 := by kernel_rfl
theorem cells_w64 : Tryd.prog.cellsOf 53 = 64 := by kernel_rfl
theorem cells_w8 : Tryd.prog.cellsOf 23 = 8 := by kernel_rfl
theorem cells_b64 : Tryd.prog.cellsOf 44 = 64 := by kernel_rfl
theorem cells_u32 : Tryd.prog.cellsOf 22 = 1 := by kernel_rfl
theorem cells_u8 : Tryd.prog.cellsOf 5 = 1 := by kernel_rfl
theorem laid_eq : (Rows.laid_cordwood_block_numbers : DataW Unit) = Lib.tabData .u32 (nums.map fun x => wv x) := by kernel_rfl
/-- What the row's list gives. -/
theorem tab_of {W : World} (h : laidMetH Tryd.prog [("cordwood/block.numbers", Rows.laid_cordwood_block_numbers)] W) : TabB W := by
  rw [laid_eq] at h
  have hT : Lib.TabIs Tryd.prog W "cordwood/block.numbers" .u32 (nums.map fun x => wv x) := Lib.tabIs_of_head (rest := []) gTab gTabType w64_und und_u32 cells_u32 cells_w64 h
  have hc : ∀ j v, (u32s nums)[j]? = some v → W.cell? ⟨0, j, none⟩ = some v := by
    intro j v hv
    have hj : j < nums.length := by
      have := (Array.getElem?_eq_some_iff.1 hv).1
      rwa [u32s_size] at this
    rw [hT.cell gTab j (by rw [List.length_map]; exact hj)]
    rw [u32s_get nums j hj] at hv
    rw [← hv]
    simp [List.getD_eq_getElem?_getD, hj]
  refine ⟨?_, hc⟩
  exact block_lt_of_cell (hc 0 _ (u32s_get nums 0 (by decide)))
end
end Go.Proofs.YthdckgcalooipaaDoor
namespace Go.Proofs.YthdckgcalooipaaDoor
section
open Go.RowKit
set_option linter.unusedVariables false
set_option linter.unusedSimpArgs false
theorem opens_bytes : Opens Tryd.prog 24 kBytes := opens_sl _ (hT 24 _ rfl).und (by kernel_rfl) (opens_u8 (hT 5 _ rfl).und)
theorem rv_bytes {O : Nat → Prop} {w : World} {μ : Mu} {v : Value} {b : List UInt8} (h : Sl kU8 w O v b) : RV O w μ (bytes b) v :=
  rv_sl (d := kU8) (enc := eU8) 0 (fun x cs (hx : cs = _) => by subst hx; exact .cons (.lit _) .nil) (fun _ => rfl) (by decide) h
theorem rv_ints {O : Nat → Prop} {w : World} {μ : Mu} {v : Value} {b : List Int} (h : Sl kI64 w O v b) : RV O w μ (ints b) v :=
  rv_sl (d := kI64) (enc := eI64) 0 (fun x cs (hx : cs = _) => by subst hx; exact .cons (.lit _) .nil) (fun _ => rfl) (by decide) h
/-- An argument that is a struct. -/
theorem arg_agg {H : Type} {enc : TypeId × Value → H} {P : Program} {w : World} {base : Nat} {sp : Nat → Bool} {held : Bool} {t : TypeId} {fs : Array Field} {v : Value} {dd : DataW H} {ps : List MemPlace} {α : Type} {d : Kd α} (hu : P.underlying t = some (.struct fs)) (ho : Opens P t d)
    {r : Reach} {b0 : Nat} (hv : Value.okWide P w r b0 t v) (h : DataW.Trod enc P w base sp held t v dd ps) : ∃ x cs, v = .agg cs ∧ d.rel w (fun _ => False) x cs.toList := by
  simp only [Value.okWide, hu] at hv
  obtain ⟨cs, rfl, _, _⟩ := hv
  obtain ⟨fuel, h⟩ := h
  obtain ⟨x, hx⟩ := ho enc w base sp held fuel _ _ h
  exact ⟨x, cs, rfl, by simpa [Value.cells] using hx⟩
end
end Go.Proofs.YthdckgcalooipaaDoor
namespace Go.Proofs.YthdckgcalooipaaDoor
section
open Go.RowKit
set_option linter.unusedVariables false
set_option linter.unusedSimpArgs false
def kW8 : Kd (List UInt32) where
  sz := 8
  rel _ _ xs cs := xs.length = 8 ∧ cs = xs.map fun x => Value.int .u32 (wv x)
  len h := by rw [h.2, List.length_map, h.1]
  one h u hu := by
    rw [h.2] at hu
    obtain ⟨x, _, rfl⟩ := List.mem_map.1 hu; rfl
  anti _ h := h
  more h := h
  keep _ h := h
theorem opens_w8 : Opens Tryd.prog 23 kW8 := by
  intro H enc w base sp held fuel cs x h
  obtain ⟨xs, m, _, _, hl, hxs, hel⟩ := DataW.trod_array w8_und h
  have hl : cs.length = 8 := hl
  obtain ⟨l, hL⟩ := all_enc (fun x => Value.int .u32 (wv x)) cs fun u hu => by
    obtain ⟨i, hi⟩ := List.getElem?_of_mem hu
    have hlt : i < 8 := by have := (List.getElem?_eq_some_iff.1 hi).1; omega
    have h1 := hel i hlt
    rw [cells_u32, List.getElem?_eq_getElem (by omega)] at h1
    obtain ⟨y, hy⟩ := num_u32 und_u32 _ _ _ h1
    refine ⟨y, ?_⟩
    simp only [Nat.mul_one] at hy
    have h2 := congrArg (·[0]?) hy
    simp [List.getElem?_take, List.getElem?_drop] at h2
    rw [hi] at h2
    exact Option.some.inj h2
  exact ⟨l, by rw [hL] at hl; simpa using hl, hL⟩
abbrev kSha : Kd ShS := (kW8.prod (kBytes.prod kI64)).iso fun s => (s.h, s.buf, s.n)
theorem opens_sha : Opens Tryd.prog 26 kSha := by
  intro H enc w base sp held fuel cs x h
  obtain ⟨xs, n, _, _, hl, hxs, hf⟩ := DataW.trod_struct Tryd.underlying26 h
  have hl : cs.length = 10 := hl
  have hxs : xs.length = 3 := hxs
  match cs, hl with
  | [c0, c1, c2, c3, c4, c5, c6, c7, c8, c9], _ =>
    match xs, hxs with
    | [x0, x1, x2], _ =>
      have h0 := hf 0 _ rfl
      have h1 := hf 1 _ rfl
      have h2 := hf 2 _ rfl
      obtain ⟨y0, r0⟩ := opens_w8 enc w base sp held n [c0, c1, c2, c3, c4, c5, c6, c7] x0 h0
      obtain ⟨y1, r1⟩ := opens_bytes enc w base sp held n [c8] x1 h1
      obtain ⟨y2, r2⟩ := opens_i64 (hT 3 _ rfl).und enc w base sp held n [c9] x2 h2
      exact ⟨⟨y0, y1, y2⟩, [c0, c1, c2, c3, c4, c5, c6, c7], [c8, c9], rfl, r0, [c8], [c9], rfl, r1, r2⟩
theorem rv_sha {O : Nat → Prop} {w : World} {μ : Mu} {s : ShS} {cs : Array Value} (h : kSha.rel w O s cs.toList) : RV O w μ (shA s) (.agg cs) := by
  obtain ⟨h8, _, e, ⟨hh, rfl⟩, _, _, rfl, ⟨v1, rfl, h1⟩, h2⟩ := h
  have h2 : _ = [Value.int .i64 s.n] := h2
  subst h2
  have ec : cs = cs.toList.toArray := by simp
  rw [ec, e]
  obtain ⟨h, buf, n⟩ := s
  simp only at hh h1 ⊢
  match h, hh with
  | [a0, a1, a2, a3, a4, a5, a6, a7], _ =>
    have hr : RVs O w μ (shC ⟨[a0, a1, a2, a3, a4, a5, a6, a7], buf, n⟩) ([Value.int .u32 (wv a0), .int .u32 (wv a1), .int .u32 (wv a2), .int .u32 (wv a3), .int .u32 (wv a4), .int .u32 (wv a5), .int .u32 (wv a6), .int .u32 (wv a7)] ++ ([v1] ++ [.int .i64 n])) :=
      .cons (.lit _) (.cons (.lit _) (.cons (.lit _) (.cons (.lit _) (.cons (.lit _) (.cons (.lit _) (.cons (.lit _) (.cons (.lit _) (.cons (rv_bytes h1) (.cons (.lit _) .nil)))))))))
    exact .agg hr.1 hr.2
theorem len_sha {O : Nat → Prop} {w : World} {s : ShS} {cs : List Value} (h : kSha.rel w O s cs) : s.h.length = 8 := by
  obtain ⟨_, _, _, ⟨hh, _⟩, _⟩ := h; exact hh
end
end Go.Proofs.YthdckgcalooipaaDoor
