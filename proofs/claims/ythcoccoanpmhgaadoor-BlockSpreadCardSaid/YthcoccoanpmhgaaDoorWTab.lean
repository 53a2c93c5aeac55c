/- The seat's types, as a table; data of octets and numbers. -/
import Derived.Test.YthcoccoanpmhgaaDoorAApp
import Derived.Test.YthcoccoanpmhgaaDoorU32
import Derived.Test.YthcoccoanpmhgaaDoorProg
import Derived.Test.YthcoccoanpmhgaaDoorVarPure3
namespace Go.Proofs.YthcoccoanpmhgaaDoor
open Go.RowKit
set_option linter.unusedVariables false
set_option linter.unusedSimpArgs false
def tyL : List (TypeId × TyI) := [
  (3, ⟨.int .i64, 1, 8, [.int .i64 0]⟩)
  , (4, ⟨.bool, 1, 1, [.bool false]⟩)
  , (5, ⟨.int .u8, 1, 1, [.int .u8 0]⟩)
  , (9, ⟨.str, 1, 16, [.string .empty]⟩)
  , (31, ⟨.int .u64, 1, 8, [.int .u64 0]⟩)
  , (22, ⟨.int .u32, 1, 4, [.int .u32 0]⟩)
  , (37, ⟨.slice 22, 1, 24, [.slice none 0 0]⟩)
  , (23, ⟨.arr 8 22, 8, 32, [.int .u32 0]⟩)
  , (27, ⟨.arr 64 22, 64, 256, [.int .u32 0]⟩)
  , (24, ⟨.arr 64 5, 64, 64, [.int .u8 0]⟩)
  ]
abbrev tab : Tab := tabOf tyL
theorem hT : TabOk Tryd.prog tab := tabOf_ok (by kernel_rfl)
abbrev int (n : Int) : AV := .lit (.int .i64 n)
def eU8 (x : UInt8) : List AV := [.lit (.int .u8 x.toNat)]
def eI64 (x : Int) : List AV := [.lit (.int .i64 x)]
def fU8 (b : List UInt8) : Nat → List AV := fun k => eU8 (b.getD k 0)
def fI64 (b : List Int) : Nat → List AV := fun k => eI64 (b.getD k 0)
abbrev bytes (b : List UInt8) : AV := .sl 1 b.length false (fU8 b)
abbrev ints (b : List Int) : AV := .sl 1 b.length false (fI64 b)
abbrev oU8 (b : List UInt8) : AObj := { T := 5, sz := 1, n := b.length, f := fU8 b }
abbrev oI64 (b : List Int) : AObj := { T := 3, sz := 1, n := b.length, f := fI64 b }
theorem u8of_toNat (n : Int) : ((u8of n).toNat : Int) = IntKind.u8.wrap n := by rw [u8of_nat, IntKind.wrap_u8]
theorem fU8_app {xs ys : List UInt8} {n k : Nat} (hn : n = xs.length) (hk : k < n + ys.length) : fU8 (xs ++ ys) k = appF n (fU8 xs) (fU8 ys) k := by
  subst hn
  unfold fU8
  by_cases h : k < xs.length
  · rw [appF_lt h]; simp [List.getD_eq_getElem?_getD, List.getElem?_append_left h]
  · rw [appF_ge (by omega)]; simp [List.getD_eq_getElem?_getD, List.getElem?_append_right (show xs.length ≤ k by omega)]
theorem fI64_app {xs ys : List Int} {n k : Nat} (hn : n = xs.length) (hk : k < n + ys.length) : fI64 (xs ++ ys) k = appF n (fI64 xs) (fI64 ys) k := by
  subst hn
  unfold fI64
  by_cases h : k < xs.length
  · rw [appF_lt h]; simp [List.getD_eq_getElem?_getD, List.getElem?_append_left h]
  · rw [appF_ge (by omega)]; simp [List.getD_eq_getElem?_getD, List.getElem?_append_right (show xs.length ≤ k by omega)]
theorem appF_congr {n k : Nat} {f g g' : Nat → List AV} (h : ∀ j, n + j = k → g j = g' j) : appF n f g k = appF n f g' k := by
  by_cases hk : k < n
  · rw [appF_lt hk, appF_lt hk]
  · rw [appF_ge (by omega), appF_ge (by omega)]; exact h _ (by omega)
theorem isOctets_fU8 (xs : List UInt8) (n : Nat) : isOctets n (fU8 xs) := fun k hk => ⟨_, rfl⟩
theorem octets_fU8 (xs : List UInt8) : octets xs.length (fU8 xs) = xs := by
  unfold octets
  apply List.ext_getElem
  · simp
  · intro i h1 h2
    simp only [List.getElem_map, List.getElem_range, fU8, eU8, List.getD_eq_getElem?_getD, List.getElem?_eq_getElem h2, Option.getD_some]
    simp
theorem and_mask (m : Int) (k : Nat) (hk : k < 63) : IntKind.i64.wrap ((BitVec.ofInt IntKind.i64.bits m &&& BitVec.ofInt IntKind.i64.bits (2 ^ k - 1)).toNat : Int) = m % 2 ^ k := by
  have hp : (2 : Nat) ^ k ≤ 2 ^ 62 := Nat.pow_le_pow_right (by decide) (by omega)
  have hp1 : 0 < (2 : Nat) ^ k := Nat.two_pow_pos k
  have e1 : ((2 : Int) ^ k - 1) = ((2 ^ k - 1 : Nat) : Int) := by rw [Int.natCast_sub hp1]; simp
  have e2 : (BitVec.ofInt IntKind.i64.bits ((2 : Int) ^ k - 1)).toNat = 2 ^ k - 1 := by
    rw [e1, BitVec.ofInt_natCast, BitVec.toNat_ofNat, Nat.mod_eq_of_lt]
    show _ < 2 ^ 64
    omega
  rw [BitVec.toNat_and, e2, Nat.and_two_pow_sub_one_eq_mod, BitVec.toNat_ofInt]
  have hlt : ((m % ((2 ^ IntKind.i64.bits : Nat) : Int)).toNat % 2 ^ k : Nat) < 2 ^ 62 := Nat.lt_of_lt_of_le (Nat.mod_lt _ hp1) hp
  have h0 : 0 ≤ m % ((2 ^ IntKind.i64.bits : Nat) : Int) := Int.emod_nonneg _ (by decide)
  have e3 : (((m % ((2 ^ IntKind.i64.bits : Nat) : Int)).toNat % 2 ^ k : Nat) : Int) = m % 2 ^ k := by
    rw [Int.natCast_emod, Int.toNat_of_nonneg h0]
    have hd : (((2 ^ k : Nat)) : Int) ∣ ((2 ^ IntKind.i64.bits : Nat) : Int) := Int.ofNat_dvd.2 (Nat.pow_dvd_pow 2 (by show k ≤ 64; omega))
    rw [Int.emod_emod_of_dvd _ hd]; simp
  rw [← e3, IntKind.wrap_i64]
  omega
/-- A literal's octets. -/
def u8s : List Int → List (List AV) := List.map fun x => [.lit (.int .u8 x)]
theorem getC_u8 : ∀ {xs : List UInt8} {l : List Int}, l = xs.map (fun x => (x.toNat : Int)) → ∀ k, k < xs.length → getC (u8s l) k = fU8 xs k
  | [], l, h, k, hk => by simp at hk
  | x :: xs, l, h, 0, hk => by subst h; rfl
  | x :: xs, l, h, k + 1, hk => by
    subst h
    have := getC_u8 (xs := xs) rfl k (by simpa using hk)
    simp only [getC, nth_eq, u8s, List.map_cons, List.getElem?_cons_succ] at this ⊢
    rw [this]; simp [fU8, List.getD_eq_getElem?_getD]
theorem appU8 {xs ys : List UInt8} {l : List Int} {n m : Nat} (hn : n = xs.length) (hm : m = ys.length) (h : l = ys.map (fun x => (x.toNat : Int))) : ∀ k, k < n + m → fU8 (xs ++ ys) k = appF n (fU8 xs) (getC (u8s l)) k := fun k hk => by
  subst hm
  rw [fU8_app hn hk]
  exact appF_congr fun j hj => (getC_u8 h j (by omega)).symm
theorem leU8 (xs : List UInt8) : AV.Le (.sl 1 xs.length false (getC (u8s (xs.map fun x => (x.toNat : Int))))) (bytes xs) := .sl rfl (fun h => h) fun k hk => (getC_u8 rfl k hk).symm
def eByte : Enc UInt8 := ⟨1, 0, eU8⟩
def eInt : Enc Int := ⟨1, 0, eI64⟩
theorem leCutB {n : Nat} {lo hi : Option Int} {t t' : Bool} {xs ys : List UInt8} (hn : n = xs.length) (hok : cutHi hi n ≤ n) (ht : t' = true → t = true) (hy : ys = (xs.take (cutHi hi n)).drop (cutLo lo)) :
    AV.Le (.sl 1 (cutLen lo hi n) t (cutF lo (fU8 xs))) (.sl 1 ys.length t' (fU8 ys)) := leCut (e := eByte) hn hok ht hy
theorem leCutI {n : Nat} {lo hi : Option Int} {t t' : Bool} {xs ys : List Int} (hn : n = xs.length) (hok : cutHi hi n ≤ n) (ht : t' = true → t = true) (hy : ys = (xs.take (cutHi hi n)).drop (cutLo lo)) :
    AV.Le (.sl 1 (cutLen lo hi n) t (cutF lo (fI64 xs))) (.sl 1 ys.length t' (fI64 ys)) := leCut (e := eInt) hn hok ht hy
theorem isOctets_cut (xs : List UInt8) (n : Nat) (lo : Option Int) : isOctets n (cutF lo (fU8 xs)) := fun k hk => by rw [cutF_eq]; exact ⟨_, rfl⟩
theorem octets_cut {xs : List UInt8} {n : Nat} {lo hi : Option Int} (hn : n = xs.length) (h : cutHi hi n ≤ n) : octets (cutLen lo hi n) (cutF lo (fU8 xs)) = (xs.take (cutHi hi n)).drop (cutLo lo) := by
  subst hn
  unfold octets
  rw [cutLen_eq]
  apply List.ext_getElem
  · simp [Nat.min_eq_left h]
  · intro i h1 h2
    simp only [List.length_map, List.length_range] at h1
    have h3 : cutLo lo + i < xs.length := by omega
    simp only [List.getElem_map, List.getElem_range, cutF_eq, fU8, eU8, List.getD_eq_getElem?_getD, List.getElem?_eq_getElem h3, Option.getD_some, List.getElem_drop, List.getElem_take]
    simp
theorem leLitB {n : Nat} {t : Bool} {xs : List UInt8} {css : List (List AV)} (h : css = xs.map eU8) (hn : n = xs.length) : AV.Le (.sl 1 n t (getC css)) (bytes xs) := leLit (e := eByte) h hn
theorem leZeroB (n : Nat) : AV.Le (.sl 1 n false fun _ => [.lit (.int .u8 0)]) (bytes (List.replicate n 0)) := .sl (by simp) (fun h => h) fun k hk => by
  simp [fU8, eU8, List.getD_eq_getElem?_getD, hk]
end Go.Proofs.YthcoccoanpmhgaaDoor
