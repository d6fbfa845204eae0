/- crc: what it comes to, without a program; bit operations on naturals. -/
import Derived.Test.YtpcapijakenjbaaVsV
set_option linter.unusedVariables false
set_option linter.unusedSimpArgs false
namespace Go.Proofs.Ytpcapijakenjbaa.Vs
theorem iXor_u32 (a b : Nat) (ha : a < 4294967296) (hb : b < 4294967296) : iXor .u32 (a : Int) (b : Int) = ((a ^^^ b : Nat) : Int) := by
  have h := Nat.xor_lt_two_pow (n := 32) ha hb
  unfold iXor
  rw [show IntKind.u32.bits = 32 from rfl, BitVec.ofInt_natCast, BitVec.ofInt_natCast, BitVec.toNat_xor, BitVec.toNat_ofNat, BitVec.toNat_ofNat, Nat.mod_eq_of_lt ha, Nat.mod_eq_of_lt hb, wrap32]
  omega
theorem iAnd_u32 (a b : Nat) (ha : a < 4294967296) (hb : b < 4294967296) : iAnd .u32 (a : Int) (b : Int) = ((a &&& b : Nat) : Int) := by
  have h := Nat.and_lt_two_pow (n := 32) a hb
  unfold iAnd
  rw [show IntKind.u32.bits = 32 from rfl, BitVec.ofInt_natCast, BitVec.ofInt_natCast, BitVec.toNat_and, BitVec.toNat_ofNat, BitVec.toNat_ofNat, Nat.mod_eq_of_lt ha, Nat.mod_eq_of_lt hb, wrap32]
  omega
theorem iAnd_u8 (a b : Nat) (ha : a < 256) (hb : b < 256) : iAnd .u8 (a : Int) (b : Int) = ((a &&& b : Nat) : Int) := by
  have h := Nat.and_lt_two_pow (n := 8) a hb
  unfold iAnd
  rw [show IntKind.u8.bits = 8 from rfl, BitVec.ofInt_natCast, BitVec.ofInt_natCast, BitVec.toNat_and, BitVec.toNat_ofNat, BitVec.toNat_ofNat, Nat.mod_eq_of_lt ha, Nat.mod_eq_of_lt hb, wrap8]
  omega
theorem iShr_u32_1 (a : Nat) : iShr .u32 (a : Int) 1 = ((a / 2 : Nat) : Int) := by
  unfold iShr; rw [Int.fdiv_eq_ediv_of_nonneg _ (by decide)]; rfl
theorem iShr_u32_4 (a : Nat) : iShr .u32 (a : Int) 4 = ((a / 16 : Nat) : Int) := by
  unfold iShr; rw [Int.fdiv_eq_ediv_of_nonneg _ (by decide)]; rfl
theorem iShr_u8_4 (a : Nat) : iShr .u8 (a : Int) 4 = ((a / 16 : Nat) : Int) := by
  unfold iShr; rw [Int.fdiv_eq_ediv_of_nonneg _ (by decide)]; rfl
def half (x : Nat) : Nat := if x % 2 = 1 then (x / 2) ^^^ 3988292384 else x / 2
def halves : Nat → Nat → Nat
  | 0, x => x
  | j + 1, x => half (halves j x)
def row (i : Nat) : Nat := halves 4 i
theorem half_lt {x : Nat} (h : x < 4294967296) : half x < 4294967296 := by
  unfold half
  split
  · exact Nat.xor_lt_two_pow (n := 32) (by omega) (by omega)
  · omega
theorem halves_lt {x : Nat} (h : x < 4294967296) : ∀ j, halves j x < 4294967296
  | 0 => h
  | j + 1 => half_lt (halves_lt h j)
theorem and1 {x : Nat} (h : x < 4294967296) : iAnd .u32 (x : Int) 1 = ((x % 2 : Nat) : Int) := by
  rw [show (1 : Int) = ((1 : Nat) : Int) from rfl, iAnd_u32 x 1 h (by omega), Nat.and_one_is_mod]
theorem and15 {x : Nat} (h : x < 4294967296) : iAnd .u32 (x : Int) 15 = ((x % 16 : Nat) : Int) := by
  rw [show (15 : Int) = ((15 : Nat) : Int) from rfl, iAnd_u32 x 15 h (by omega), Nat.and_two_pow_sub_one_eq_mod x 4]
theorem and15b {x : Nat} (h : x < 256) : iAnd .u8 (x : Int) 15 = ((x % 16 : Nat) : Int) := by
  rw [show (15 : Int) = ((15 : Nat) : Int) from rfl, iAnd_u8 x 15 h (by omega), Nat.and_two_pow_sub_one_eq_mod x 4]
theorem xorp {x : Nat} (h : x < 4294967296) : iXor .u32 (x : Int) 3988292384 = ((x ^^^ 3988292384 : Nat) : Int) := by
  rw [show (3988292384 : Int) = ((3988292384 : Nat) : Int) from rfl, iXor_u32 _ _ h (by omega)]
def nib (r x : Nat) : Nat := (r / 16) ^^^ row ((r ^^^ x) % 16)
theorem row_lt (i : Nat) (h : i < 16) : row i < 4294967296 := halves_lt (by omega) 4
theorem nib_lt {r x : Nat} (h : r < 4294967296) : nib r x < 4294967296 :=
  Nat.xor_lt_two_pow (n := 32) (by omega) (row_lt _ (by omega))
def come1 (r : Nat) (x : UInt8) : Nat := nib (nib r (x.toNat % 16)) (x.toNat / 16)
def comes (r : Nat) (xs : List UInt8) : Nat := xs.foldl come1 r
theorem come1_lt {r : Nat} {x : UInt8} (h : r < 4294967296) : come1 r x < 4294967296 := nib_lt (nib_lt h)
theorem comes_lt {xs : List UInt8} : ∀ {r : Nat}, r < 4294967296 → comes r xs < 4294967296 := by
  induction xs with
  | nil => exact fun h => h
  | cons x xs ih => exact fun h => ih (come1_lt h)
theorem comes_snoc (r : Nat) (xs : List UInt8) (k : Nat) (x : UInt8) (h : xs[k]? = some x) : comes r (xs.take (k + 1)) = come1 (comes r (xs.take k)) x := by
  unfold comes
  rw [List.take_add_one, h]
  simp
theorem ones_xor {c : Nat} (h : c < 4294967296) : 4294967295 ^^^ c = 4294967295 - c := by
  have h1 : (BitVec.allOnes 32 ^^^ BitVec.ofNat 32 c).toNat = 4294967295 ^^^ c := by
    rw [BitVec.toNat_xor, BitVec.toNat_allOnes, BitVec.toNat_ofNat, Nat.mod_eq_of_lt h]
  have h2 : BitVec.allOnes 32 ^^^ BitVec.ofNat 32 c = ~~~ (BitVec.ofNat 32 c) := by rw [BitVec.allOnes_xor]
  rw [← h1, h2, BitVec.toNat_not, BitVec.toNat_ofNat, Nat.mod_eq_of_lt h]
theorem iNot_u32 {c : Nat} (h : c < 4294967296) : iNot .u32 (c : Int) = ((4294967295 - c : Nat) : Int) := by
  have h1 : iNot .u32 (c : Int) = iXor .u32 ((4294967295 : Nat) : Int) (c : Int) := rfl
  rw [h1, iXor_u32 _ _ (by omega) h, ones_xor h]
def sumOf (xs : List UInt8) : Nat := 4294967295 - comes 4294967295 xs
def rowsL (n : Nat) : List D := (List.range 16).map fun i => .int .u32 (if i < n then (row i : Int) else 0)
@[simp, go_sem] theorem rowsL_len (n : Nat) : (rowsL n).length = 16 := by simp [rowsL]
theorem rowsL_set (k : Nat) : (rowsL k).set k (.int .u32 (row k : Int)) = rowsL (k + 1) := by
  apply List.ext_getElem?
  intro j
  by_cases hj : j < 16
  · rw [List.getElem?_set]
    simp only [rowsL, List.length_map, List.length_range, List.getElem?_map, List.getElem?_range hj, Option.map_some]
    by_cases h : k = j
    · subst h; simp [hj]
    · rw [if_neg h]
      by_cases h2 : j < k
      · rw [if_pos h2, if_pos (by omega)]
      · rw [if_neg h2, if_neg (by omega)]
  · rw [List.getElem?_eq_none (by simp [rowsL]; omega), List.getElem?_eq_none (by simp [rowsL]; omega)]
@[go_sem] theorem rowsL_one (n : Nat) : ((rowsL n).map V.d).all V.one = true := by simp [rowsL, V.one]
@[go_sem] theorem rowsL_take (n : Nat) : List.take 16 (rowsL n) = rowsL n := List.take_of_length_le (by simp)
@[go_sem] theorem rowsL_drop (n : Nat) : List.drop 16 (rowsL n) = [] := List.drop_of_length_le (by simp)
theorem half1 {x : Nat} (h : x < 4294967296) (hb : iAnd .u32 (x : Int) 1 = 1) : iXor .u32 (iShr .u32 (x : Int) 1) 3988292384 = (half x : Int) := by
  rw [and1 h] at hb
  rw [iShr_u32_1, xorp (by omega), half, if_pos (by omega)]
theorem half0 {x : Nat} (h : x < 4294967296) (hb : ¬ iAnd .u32 (x : Int) 1 = 1) : iShr .u32 (x : Int) 1 = (half x : Int) := by
  rw [and1 h] at hb
  rw [iShr_u32_1, half, if_neg (by omega)]
theorem rowsL_get (i : Nat) (h : i < 16) (d : D) : (rowsL 16).getD i d = .int .u32 (row i : Int) := by
  rw [List.getD_eq_getElem?_getD, rowsL, List.getElem?_map, List.getElem?_range h]; simp [h]
end Go.Proofs.Ytpcapijakenjbaa.Vs
