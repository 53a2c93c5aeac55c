/- Layer 3, plain: sixty-four octets mixed into eight words. -/
import Derived.Test.YthcoccoanpmhgaaDoorU32
namespace Go.Proofs.YthcoccoanpmhgaaDoor
set_option linter.unusedVariables false
def sg0 (x : UInt32) : UInt32 := rotr x 7 ^^^ rotr x 18 ^^^ (x >>> 3)
def sg1 (x : UInt32) : UInt32 := rotr x 17 ^^^ rotr x 19 ^^^ (x >>> 10)
def bg0 (x : UInt32) : UInt32 := rotr x 2 ^^^ rotr x 13 ^^^ rotr x 22
def bg1 (x : UInt32) : UInt32 := rotr x 6 ^^^ rotr x 11 ^^^ rotr x 25
def wnext (l : List UInt32) (t : Nat) : UInt32 := l.getD (t - 16) 0 + sg0 (l.getD (t - 15) 0) + l.getD (t - 7) 0 + sg1 (l.getD (t - 2) 0)
def spr (l : List UInt32) : Nat → List UInt32
  | 0 => l
  | n + 1 => (spr l n).set (16 + n) (wnext (spr l n) (16 + n))
def beU (l : List UInt8) : UInt32 := l.foldl (fun n x => (n <<< 8) ||| x.toUInt32) 0
/-- The words when i octets have been taken in. -/
def pw (b : List UInt8) (i : Nat) : List UInt32 := (List.range 64).map fun j => beU (((b.take i).drop (4 * j)).take 4)
def spread (b : List UInt8) : List UInt32 := spr (pw b 64) 48
theorem spr_len (l : List UInt32) : ∀ n, (spr l n).length = l.length
  | 0 => rfl
  | n + 1 => by rw [spr, List.length_set, spr_len l n]
theorem pw_len (b : List UInt8) (i : Nat) : (pw b i).length = 64 := by simp [pw]
theorem pw_zero (b : List UInt8) : pw b 0 = List.replicate 64 0 := by
  unfold pw; simp [beU]; rfl
theorem pw_succ (b : List UInt8) (i : Nat) (h : i < b.length) (hi : i < 64) : pw b (i + 1) = (pw b i).set (i / 4) (((pw b i)[i / 4]'(by rw [pw_len]; omega) <<< 8) ||| b[i].toUInt32) := by
  have ht : b.take (i + 1) = b.take i ++ [b[i]] := List.take_succ_eq_append_getElem h
  have hl : (b.take i).length = i := by rw [List.length_take]; omega
  apply List.ext_getElem
  · simp [pw]
  · intro j h1 h2
    rw [List.getElem_set]
    simp only [pw, List.getElem_map, List.getElem_range]
    rw [ht]
    split
    · rename_i hj
      subst hj
      rw [List.drop_append_of_le_length (by omega), List.take_of_length_le (l := _ ++ _) (by simp; omega), List.take_of_length_le (l := List.drop _ _) (by simp; omega)]
      unfold beU
      rw [List.foldl_append]
      rfl
    · rename_i hj
      rcases Nat.lt_or_ge j (i / 4) with hlt | hge
      · rw [List.drop_append_of_le_length (by omega), List.take_append_of_le_length (by rw [List.length_drop]; omega)]
      · have : i < 4 * j := by omega
        rw [List.drop_eq_nil_of_le (by simp; omega), List.drop_eq_nil_of_le (by omega)]
/-- One round. -/
structure BSt where
  a : UInt32
  b : UInt32
  c : UInt32
  d : UInt32
  e : UInt32
  f : UInt32
  g : UInt32
  z : UInt32
deriving DecidableEq
def chf (e f g : UInt32) : UInt32 := g ^^^ (e &&& (f ^^^ g))
def maj (a b c : UInt32) : UInt32 := ((a &&& b) ^^^ (a &&& c)) ^^^ (b &&& c)
def rp (s : BSt) (n w : UInt32) : UInt32 := s.z + bg1 s.e + chf s.e s.f s.g + n + w
def rq (s : BSt) : UInt32 := bg0 s.a + maj s.a s.b s.c
def rnd (s : BSt) (n w : UInt32) : BSt := ⟨rp s n w + rq s, s.a, s.b, s.c, s.d + rp s n w, s.e, s.f, s.g⟩
def BSt.list (s : BSt) : List UInt32 := [s.a, s.b, s.c, s.d, s.e, s.f, s.g, s.z]
def nums : List UInt32 := [1116352408, 1899447441, 3049323471, 3921009573, 961987163, 1508970993, 2453635748, 2870763221, 3624381080, 310598401, 607225278, 1426881987, 1925078388, 2162078206, 2614888103, 3248222580, 3835390401, 4022224774, 264347078, 604807628, 770255983, 1249150122, 1555081692, 1996064986, 2554220882, 2821834349, 2952996808, 3210313671, 3336571891, 3584528711, 113926993, 338241895, 666307205, 773529912, 1294757372, 1396182291, 1695183700, 1986661051, 2177026350, 2456956037, 2730485921, 2820302411, 3259730800, 3345764771, 3516065817, 3600352804, 4094571909, 275423344, 430227734, 506948616, 659060556, 883997877, 958139571, 1322822218, 1537002063, 1747873779, 1955562222, 2024104815, 2227730452, 2361852424, 2428436474, 2756734187, 3204031479, 3329325298]
def rounds (b : List UInt8) (s : BSt) : Nat → BSt
  | 0 => s
  | t + 1 => rnd (rounds b s t) (nums.getD t 0) ((spread b).getD t 0)
def stOf (h : List UInt32) : BSt := ⟨h.getD 0 0, h.getD 1 0, h.getD 2 0, h.getD 3 0, h.getD 4 0, h.getD 5 0, h.getD 6 0, h.getD 7 0⟩
def mix (h : List UInt32) (b : List UInt8) : List UInt32 := List.zipWith (· + ·) h (rounds b (stOf h) 64).list
end Go.Proofs.YthcoccoanpmhgaaDoor
