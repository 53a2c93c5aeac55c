/- Words of thirty-two bits: what the model reckons, as UInt32. -/
import Derived.Test.YthcoccoanpmhgaaDoorLib
namespace Go.Proofs.YthcoccoanpmhgaaDoor
open Go.RowKit
set_option linter.unusedVariables false
set_option linter.unusedSimpArgs false
/-- A word, as the model's number: a name of its own, so that simp leaves it alone. -/
def wv (x : UInt32) : Int := (x.toNat : Int)
theorem wv_lt (x : UInt32) : wv x < 4294967296 := by have := x.toNat_lt; unfold wv; omega
theorem wv_pos (x : UInt32) : 0 ≤ wv x := by unfold wv; omega
theorem wv_inj {a b : UInt32} (h : wv a = wv b) : a = b := by unfold wv at h; exact UInt32.toNat_inj.1 (by omega)
theorem ofInt_u32 (a : UInt32) : BitVec.ofInt 32 (wv a) = a.toBitVec := by
  unfold wv; rw [BitVec.ofInt_natCast]; apply BitVec.eq_of_toNat_eq; have := a.toNat_lt; simp
theorem wrap_wv (a : UInt32) : IntKind.u32.wrap (wv a) = wv a := by
  have := a.toNat_lt; rw [IntKind.wrap_u32]; unfold wv; omega
@[go_sem] theorem wv_xor (a b : UInt32) : bits .xor .u32 (wv a) (wv b) = wv (a ^^^ b) := by
  show IntKind.u32.wrap ((BitVec.ofInt 32 (wv a) ^^^ BitVec.ofInt 32 (wv b)).toNat : Int) = _
  rw [ofInt_u32, ofInt_u32]
  exact wrap_wv (a ^^^ b)
@[go_sem] theorem wv_and (a b : UInt32) : bits .and .u32 (wv a) (wv b) = wv (a &&& b) := by
  show IntKind.u32.wrap ((BitVec.ofInt 32 (wv a) &&& BitVec.ofInt 32 (wv b)).toNat : Int) = _
  rw [ofInt_u32, ofInt_u32]
  exact wrap_wv (a &&& b)
@[go_sem] theorem wv_or (a b : UInt32) : bits .or .u32 (wv a) (wv b) = wv (a ||| b) := by
  show IntKind.u32.wrap ((BitVec.ofInt 32 (wv a) ||| BitVec.ofInt 32 (wv b)).toNat : Int) = _
  rw [ofInt_u32, ofInt_u32]
  exact wrap_wv (a ||| b)
@[go_sem] theorem wv_add (a b : UInt32) : (wv a + wv b) % (4294967296 : Int) = wv (a + b) := by
  unfold wv; rw [UInt32.toNat_add]; omega
@[go_sem] theorem wv_sub (a b : UInt32) : (wv a - wv b) % (4294967296 : Int) = wv (a - b) := by
  have ha := a.toNat_lt; have hb := b.toNat_lt
  unfold wv; rw [UInt32.toNat_sub]; omega
@[go_sem] theorem wv_mod (a : UInt32) : wv a % (4294967296 : Int) = wv a := by
  have := wv_lt a; have := wv_pos a; omega
theorem wv_shr (x n : UInt32) (k : Int) (hn : n.toNat < 32) (hk : k = (2 ^ n.toNat : Nat)) : wv x / k = wv (x >>> n) := by
  unfold wv; rw [UInt32.toNat_shiftRight, Nat.mod_eq_of_lt hn, Nat.shiftRight_eq_div_pow, hk]; simp
theorem wv_shl (x n : UInt32) (k : Int) (hn : n.toNat < 32) (hk : k = (2 ^ n.toNat : Nat)) : wv x * k % (4294967296 : Int) = wv (x <<< n) := by
  unfold wv; rw [UInt32.toNat_shiftLeft, Nat.mod_eq_of_lt hn, Nat.shiftLeft_eq, hk]; simp
@[go_sem] theorem wv_shr1 (x : UInt32) : wv x / (2 : Int) = wv (x >>> 1) := wv_shr x 1 _ (by decide) (by decide)
@[go_sem] theorem wv_shl1 (x : UInt32) : wv x * (2 : Int) % (4294967296 : Int) = wv (x <<< 1) := wv_shl x 1 _ (by decide) (by decide)
@[go_sem] theorem wv_shr2 (x : UInt32) : wv x / (4 : Int) = wv (x >>> 2) := wv_shr x 2 _ (by decide) (by decide)
@[go_sem] theorem wv_shl2 (x : UInt32) : wv x * (4 : Int) % (4294967296 : Int) = wv (x <<< 2) := wv_shl x 2 _ (by decide) (by decide)
@[go_sem] theorem wv_shr3 (x : UInt32) : wv x / (8 : Int) = wv (x >>> 3) := wv_shr x 3 _ (by decide) (by decide)
@[go_sem] theorem wv_shl3 (x : UInt32) : wv x * (8 : Int) % (4294967296 : Int) = wv (x <<< 3) := wv_shl x 3 _ (by decide) (by decide)
@[go_sem] theorem wv_shr4 (x : UInt32) : wv x / (16 : Int) = wv (x >>> 4) := wv_shr x 4 _ (by decide) (by decide)
@[go_sem] theorem wv_shl4 (x : UInt32) : wv x * (16 : Int) % (4294967296 : Int) = wv (x <<< 4) := wv_shl x 4 _ (by decide) (by decide)
@[go_sem] theorem wv_shr5 (x : UInt32) : wv x / (32 : Int) = wv (x >>> 5) := wv_shr x 5 _ (by decide) (by decide)
@[go_sem] theorem wv_shl5 (x : UInt32) : wv x * (32 : Int) % (4294967296 : Int) = wv (x <<< 5) := wv_shl x 5 _ (by decide) (by decide)
@[go_sem] theorem wv_shr6 (x : UInt32) : wv x / (64 : Int) = wv (x >>> 6) := wv_shr x 6 _ (by decide) (by decide)
@[go_sem] theorem wv_shl6 (x : UInt32) : wv x * (64 : Int) % (4294967296 : Int) = wv (x <<< 6) := wv_shl x 6 _ (by decide) (by decide)
@[go_sem] theorem wv_shr7 (x : UInt32) : wv x / (128 : Int) = wv (x >>> 7) := wv_shr x 7 _ (by decide) (by decide)
@[go_sem] theorem wv_shl7 (x : UInt32) : wv x * (128 : Int) % (4294967296 : Int) = wv (x <<< 7) := wv_shl x 7 _ (by decide) (by decide)
@[go_sem] theorem wv_shr8 (x : UInt32) : wv x / (256 : Int) = wv (x >>> 8) := wv_shr x 8 _ (by decide) (by decide)
@[go_sem] theorem wv_shl8 (x : UInt32) : wv x * (256 : Int) % (4294967296 : Int) = wv (x <<< 8) := wv_shl x 8 _ (by decide) (by decide)
@[go_sem] theorem wv_shr9 (x : UInt32) : wv x / (512 : Int) = wv (x >>> 9) := wv_shr x 9 _ (by decide) (by decide)
@[go_sem] theorem wv_shl9 (x : UInt32) : wv x * (512 : Int) % (4294967296 : Int) = wv (x <<< 9) := wv_shl x 9 _ (by decide) (by decide)
@[go_sem] theorem wv_shr10 (x : UInt32) : wv x / (1024 : Int) = wv (x >>> 10) := wv_shr x 10 _ (by decide) (by decide)
@[go_sem] theorem wv_shl10 (x : UInt32) : wv x * (1024 : Int) % (4294967296 : Int) = wv (x <<< 10) := wv_shl x 10 _ (by decide) (by decide)
@[go_sem] theorem wv_shr11 (x : UInt32) : wv x / (2048 : Int) = wv (x >>> 11) := wv_shr x 11 _ (by decide) (by decide)
@[go_sem] theorem wv_shl11 (x : UInt32) : wv x * (2048 : Int) % (4294967296 : Int) = wv (x <<< 11) := wv_shl x 11 _ (by decide) (by decide)
@[go_sem] theorem wv_shr12 (x : UInt32) : wv x / (4096 : Int) = wv (x >>> 12) := wv_shr x 12 _ (by decide) (by decide)
@[go_sem] theorem wv_shl12 (x : UInt32) : wv x * (4096 : Int) % (4294967296 : Int) = wv (x <<< 12) := wv_shl x 12 _ (by decide) (by decide)
@[go_sem] theorem wv_shr13 (x : UInt32) : wv x / (8192 : Int) = wv (x >>> 13) := wv_shr x 13 _ (by decide) (by decide)
@[go_sem] theorem wv_shl13 (x : UInt32) : wv x * (8192 : Int) % (4294967296 : Int) = wv (x <<< 13) := wv_shl x 13 _ (by decide) (by decide)
@[go_sem] theorem wv_shr14 (x : UInt32) : wv x / (16384 : Int) = wv (x >>> 14) := wv_shr x 14 _ (by decide) (by decide)
@[go_sem] theorem wv_shl14 (x : UInt32) : wv x * (16384 : Int) % (4294967296 : Int) = wv (x <<< 14) := wv_shl x 14 _ (by decide) (by decide)
@[go_sem] theorem wv_shr15 (x : UInt32) : wv x / (32768 : Int) = wv (x >>> 15) := wv_shr x 15 _ (by decide) (by decide)
@[go_sem] theorem wv_shl15 (x : UInt32) : wv x * (32768 : Int) % (4294967296 : Int) = wv (x <<< 15) := wv_shl x 15 _ (by decide) (by decide)
@[go_sem] theorem wv_shr16 (x : UInt32) : wv x / (65536 : Int) = wv (x >>> 16) := wv_shr x 16 _ (by decide) (by decide)
@[go_sem] theorem wv_shl16 (x : UInt32) : wv x * (65536 : Int) % (4294967296 : Int) = wv (x <<< 16) := wv_shl x 16 _ (by decide) (by decide)
@[go_sem] theorem wv_shr17 (x : UInt32) : wv x / (131072 : Int) = wv (x >>> 17) := wv_shr x 17 _ (by decide) (by decide)
@[go_sem] theorem wv_shl17 (x : UInt32) : wv x * (131072 : Int) % (4294967296 : Int) = wv (x <<< 17) := wv_shl x 17 _ (by decide) (by decide)
@[go_sem] theorem wv_shr18 (x : UInt32) : wv x / (262144 : Int) = wv (x >>> 18) := wv_shr x 18 _ (by decide) (by decide)
@[go_sem] theorem wv_shl18 (x : UInt32) : wv x * (262144 : Int) % (4294967296 : Int) = wv (x <<< 18) := wv_shl x 18 _ (by decide) (by decide)
@[go_sem] theorem wv_shr19 (x : UInt32) : wv x / (524288 : Int) = wv (x >>> 19) := wv_shr x 19 _ (by decide) (by decide)
@[go_sem] theorem wv_shl19 (x : UInt32) : wv x * (524288 : Int) % (4294967296 : Int) = wv (x <<< 19) := wv_shl x 19 _ (by decide) (by decide)
@[go_sem] theorem wv_shr20 (x : UInt32) : wv x / (1048576 : Int) = wv (x >>> 20) := wv_shr x 20 _ (by decide) (by decide)
@[go_sem] theorem wv_shl20 (x : UInt32) : wv x * (1048576 : Int) % (4294967296 : Int) = wv (x <<< 20) := wv_shl x 20 _ (by decide) (by decide)
@[go_sem] theorem wv_shr21 (x : UInt32) : wv x / (2097152 : Int) = wv (x >>> 21) := wv_shr x 21 _ (by decide) (by decide)
@[go_sem] theorem wv_shl21 (x : UInt32) : wv x * (2097152 : Int) % (4294967296 : Int) = wv (x <<< 21) := wv_shl x 21 _ (by decide) (by decide)
@[go_sem] theorem wv_shr22 (x : UInt32) : wv x / (4194304 : Int) = wv (x >>> 22) := wv_shr x 22 _ (by decide) (by decide)
@[go_sem] theorem wv_shl22 (x : UInt32) : wv x * (4194304 : Int) % (4294967296 : Int) = wv (x <<< 22) := wv_shl x 22 _ (by decide) (by decide)
@[go_sem] theorem wv_shr23 (x : UInt32) : wv x / (8388608 : Int) = wv (x >>> 23) := wv_shr x 23 _ (by decide) (by decide)
@[go_sem] theorem wv_shl23 (x : UInt32) : wv x * (8388608 : Int) % (4294967296 : Int) = wv (x <<< 23) := wv_shl x 23 _ (by decide) (by decide)
@[go_sem] theorem wv_shr24 (x : UInt32) : wv x / (16777216 : Int) = wv (x >>> 24) := wv_shr x 24 _ (by decide) (by decide)
@[go_sem] theorem wv_shl24 (x : UInt32) : wv x * (16777216 : Int) % (4294967296 : Int) = wv (x <<< 24) := wv_shl x 24 _ (by decide) (by decide)
@[go_sem] theorem wv_shr25 (x : UInt32) : wv x / (33554432 : Int) = wv (x >>> 25) := wv_shr x 25 _ (by decide) (by decide)
@[go_sem] theorem wv_shl25 (x : UInt32) : wv x * (33554432 : Int) % (4294967296 : Int) = wv (x <<< 25) := wv_shl x 25 _ (by decide) (by decide)
@[go_sem] theorem wv_shr26 (x : UInt32) : wv x / (67108864 : Int) = wv (x >>> 26) := wv_shr x 26 _ (by decide) (by decide)
@[go_sem] theorem wv_shl26 (x : UInt32) : wv x * (67108864 : Int) % (4294967296 : Int) = wv (x <<< 26) := wv_shl x 26 _ (by decide) (by decide)
@[go_sem] theorem wv_shr27 (x : UInt32) : wv x / (134217728 : Int) = wv (x >>> 27) := wv_shr x 27 _ (by decide) (by decide)
@[go_sem] theorem wv_shl27 (x : UInt32) : wv x * (134217728 : Int) % (4294967296 : Int) = wv (x <<< 27) := wv_shl x 27 _ (by decide) (by decide)
@[go_sem] theorem wv_shr28 (x : UInt32) : wv x / (268435456 : Int) = wv (x >>> 28) := wv_shr x 28 _ (by decide) (by decide)
@[go_sem] theorem wv_shl28 (x : UInt32) : wv x * (268435456 : Int) % (4294967296 : Int) = wv (x <<< 28) := wv_shl x 28 _ (by decide) (by decide)
@[go_sem] theorem wv_shr29 (x : UInt32) : wv x / (536870912 : Int) = wv (x >>> 29) := wv_shr x 29 _ (by decide) (by decide)
@[go_sem] theorem wv_shl29 (x : UInt32) : wv x * (536870912 : Int) % (4294967296 : Int) = wv (x <<< 29) := wv_shl x 29 _ (by decide) (by decide)
@[go_sem] theorem wv_shr30 (x : UInt32) : wv x / (1073741824 : Int) = wv (x >>> 30) := wv_shr x 30 _ (by decide) (by decide)
@[go_sem] theorem wv_shl30 (x : UInt32) : wv x * (1073741824 : Int) % (4294967296 : Int) = wv (x <<< 30) := wv_shl x 30 _ (by decide) (by decide)
@[go_sem] theorem wv_shr31 (x : UInt32) : wv x / (2147483648 : Int) = wv (x >>> 31) := wv_shr x 31 _ (by decide) (by decide)
@[go_sem] theorem wv_shl31 (x : UInt32) : wv x * (2147483648 : Int) % (4294967296 : Int) = wv (x <<< 31) := wv_shl x 31 _ (by decide) (by decide)
@[go_sem] theorem wv_or8 (a : UInt32) (x : UInt8) : bits .or .u32 (wv a) (x.toNat : Int) = wv (a ||| x.toUInt32) := by
  have : (x.toNat : Int) = wv x.toUInt32 := by simp [wv]
  rw [this, wv_or]
@[go_sem] theorem wv8m (x : UInt8) : (x.toNat : Int) % (4294967296 : Int) = wv x.toUInt32 := by have := x.toNat_lt; simp [wv]; omega
theorem wv8 (x : UInt8) : (x.toNat : Int) = wv x.toUInt32 := by simp [wv]
def rotr (x n : UInt32) : UInt32 := (x >>> n) ||| (x <<< (32 - n))
def u32s (l : List UInt32) : Array Value := (l.map fun x => Value.int .u32 (wv x)).toArray
def b8s (l : List UInt8) : Array Value := (l.map fun x => Value.int .u8 x.toNat).toArray
theorem eg_add (a b : UInt32) : IntKind.u32.wrap (wv a + wv b) = wv (a + b) := by rw [IntKind.wrap_u32]; unfold wv; rw [UInt32.toNat_add]; omega
theorem eg_sub (a b : UInt32) : IntKind.u32.wrap (wv a - wv b) = wv (a - b) := by
  rw [IntKind.wrap_u32]; unfold wv; rw [UInt32.toNat_sub]
  have := a.toNat_lt; have := b.toNat_lt; omega
theorem eg_bv (v : BitVec 32) : IntKind.u32.wrap (v.toNat : Int) = v.toNat := by rw [IntKind.wrap_u32]; have := v.isLt; omega
theorem eg_and (a b : UInt32) : IntKind.u32.wrap ((BitVec.ofInt IntKind.u32.bits (wv a) &&& BitVec.ofInt IntKind.u32.bits (wv b)).toNat : Int) = wv (a &&& b) := by
  show IntKind.u32.wrap ((BitVec.ofInt 32 (wv a) &&& BitVec.ofInt 32 (wv b)).toNat : Int) = _
  rw [ofInt_u32, ofInt_u32]; exact eg_bv (a.toBitVec &&& b.toBitVec)
theorem eg_or (a b : UInt32) : IntKind.u32.wrap ((BitVec.ofInt IntKind.u32.bits (wv a) ||| BitVec.ofInt IntKind.u32.bits (wv b)).toNat : Int) = wv (a ||| b) := by
  show IntKind.u32.wrap ((BitVec.ofInt 32 (wv a) ||| BitVec.ofInt 32 (wv b)).toNat : Int) = _
  rw [ofInt_u32, ofInt_u32]; exact eg_bv (a.toBitVec ||| b.toBitVec)
theorem eg_xor (a b : UInt32) : IntKind.u32.wrap ((BitVec.ofInt IntKind.u32.bits (wv a) ^^^ BitVec.ofInt IntKind.u32.bits (wv b)).toNat : Int) = wv (a ^^^ b) := by
  show IntKind.u32.wrap ((BitVec.ofInt 32 (wv a) ^^^ BitVec.ofInt 32 (wv b)).toNat : Int) = _
  rw [ofInt_u32, ofInt_u32]; exact eg_bv (a.toBitVec ^^^ b.toBitVec)
theorem eg_shr (x : UInt32) (n : Nat) (hn : n < 32) : (wv x).fdiv (2 ^ min n IntKind.u32.bits) = wv (x >>> UInt32.ofNat n) := by
  have hb : min n IntKind.u32.bits = n := Nat.min_eq_left (by show n ≤ 32; omega)
  have h1 : (UInt32.ofNat n).toNat = n := by rw [UInt32.toNat_ofNat']; omega
  rw [hb, Int.fdiv_eq_ediv_of_nonneg _ (Int.le_of_lt (Int.pow_pos (by decide)))]
  rw [← wv_shr x (UInt32.ofNat n) (2 ^ n : Int) (by omega) (by rw [h1]; simp)]
theorem eg_shl (x : UInt32) (n : Nat) (hn : n < 32) : IntKind.u32.wrap (wv x * 2 ^ min n IntKind.u32.bits) = wv (x <<< UInt32.ofNat n) := by
  have hb : min n IntKind.u32.bits = n := Nat.min_eq_left (by show n ≤ 32; omega)
  have h1 : (UInt32.ofNat n).toNat = n := by rw [UInt32.toNat_ofNat']; omega
  rw [hb, IntKind.wrap_u32]
  rw [← wv_shl x (UInt32.ofNat n) (2 ^ n : Int) (by omega) (by rw [h1]; simp)]
theorem eg_ofu8 (a : UInt8) : BitVec.ofInt IntKind.u8.bits (a.toNat : Int) = a.toBitVec := by
  show BitVec.ofInt 8 (a.toNat : Int) = _
  apply BitVec.eq_of_toNat_eq
  rw [BitVec.ofInt_natCast, BitVec.toNat_ofNat]
  have := a.toNat_lt
  show a.toNat % 2 ^ 8 = a.toNat
  omega
theorem eg_xor8 (a b : UInt8) : IntKind.u8.wrap ((BitVec.ofInt IntKind.u8.bits (a.toNat : Int) ^^^ BitVec.ofInt IntKind.u8.bits (b.toNat : Int)).toNat : Int) = ((a ^^^ b).toNat : Int) := by
  rw [eg_ofu8, eg_ofu8, IntKind.wrap_u8]
  have := (a ^^^ b).toNat_lt
  show (((a ^^^ b).toNat : Nat) : Int) % 256 = _
  omega
theorem wv_beq (a b : UInt32) : (wv a == wv b) = (a == b) := by
  rw [Bool.eq_iff_iff]; simp only [beq_iff_eq]; exact ⟨wv_inj, fun h => by rw [h]⟩
end Go.Proofs.YthcoccoanpmhgaaDoor
