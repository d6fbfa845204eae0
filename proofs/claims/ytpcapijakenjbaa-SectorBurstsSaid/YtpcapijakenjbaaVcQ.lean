/- crc: the plain law: by halves of bytes is as bit by bit. -/
import Derived.Test.YtpcapijakenjbaaVcP
set_option linter.unusedVariables false
set_option linter.unusedSimpArgs false
namespace Go.Proofs.Ytpcapijakenjbaa.Vs
open Go.RowKit

/-- A bit is fed, as the reference does it. -/
def feed (r x : Nat) : Nat := if (r ^^^ x) % 2 = 1 then (r / 2) ^^^ 3988292384 else r / 2
def feeds : Nat → Nat → Nat → Nat
  | 0, r, _ => r
  | j + 1, r, x => feed (feeds j r x) (x / 2 ^ j)
theorem feed_lt {r x : Nat} (h : r < 4294967296) : feed r x < 4294967296 := by
  unfold feed
  split
  · exact Nat.xor_lt_two_pow (n := 32) (by omega) (by omega)
  · omega
theorem feeds_lt {r x : Nat} (h : r < 4294967296) : ∀ j, feeds j r x < 4294967296
  | 0 => h
  | j + 1 => feed_lt (feeds_lt h j)
theorem xor_mod_two (a b : Nat) : (a ^^^ b) % 2 = (a % 2) ^^^ (b % 2) := Nat.xor_mod_two_pow (n := 1)
theorem feed_half (r x : Nat) : feed r x = half (r ^^^ (x % 2)) := by
  have h1 : (r ^^^ x) % 2 = (r ^^^ (x % 2)) % 2 := by rw [xor_mod_two, xor_mod_two r (x % 2), Nat.mod_mod]
  have h2 : (r ^^^ (x % 2)) / 2 = r / 2 := by rw [Nat.xor_div_two, show x % 2 / 2 = 0 by omega, Nat.xor_zero]
  unfold feed half
  rw [h1, h2]
theorem half_even (a b : Nat) : half (a ^^^ 2 * b) = half a ^^^ b := by
  have h1 : (a ^^^ 2 * b) % 2 = a % 2 := by rw [xor_mod_two, show 2 * b % 2 = 0 by omega, Nat.xor_zero]
  have h2 : (a ^^^ 2 * b) / 2 = a / 2 ^^^ b := by rw [Nat.xor_div_two, show 2 * b / 2 = b by omega]
  unfold half
  rw [h1, h2]
  split
  · rw [Nat.xor_assoc, Nat.xor_comm b, ← Nat.xor_assoc]
  · rfl
theorem low_split (x : Nat) : x = (x % 2) ^^^ 2 * (x / 2) := by
  apply Nat.eq_of_testBit_eq
  intro i
  rw [Nat.testBit_xor]
  cases i with
  | zero => simp [Nat.testBit_zero]
  | succ i =>
    rw [Nat.testBit_succ, Nat.testBit_succ, Nat.testBit_succ]
    rw [show x % 2 / 2 = 0 by omega, show 2 * (x / 2) / 2 = x / 2 by omega]
    simp
theorem halves_even (j : Nat) : ∀ a b, halves j (a ^^^ 2 ^ j * b) = halves j a ^^^ b := by
  induction j with
  | zero => intro a b; simp [halves]
  | succ j ih =>
    intro a b
    simp only [halves]
    rw [show 2 ^ (j + 1) * b = 2 ^ j * (2 * b) by rw [Nat.pow_succ, Nat.mul_assoc], ih, half_even]
theorem low_splitn (j x : Nat) : x = (x % 2 ^ j) ^^^ 2 ^ j * (x / 2 ^ j) := by
  apply Nat.eq_of_testBit_eq
  intro i
  rw [Nat.testBit_xor, Nat.testBit_mod_two_pow, Nat.testBit_two_pow_mul, Nat.testBit_div_two_pow]
  by_cases h : i < j
  · simp [h, show ¬ j ≤ i by omega]
  · simp [h, show j ≤ i by omega]
theorem feeds_halves (j : Nat) : ∀ r x, feeds j r x = halves j (r ^^^ (x % 2 ^ j)) := by
  induction j with
  | zero => intro r x; simp [feeds, halves, Nat.mod_one]
  | succ j ih =>
    intro r x
    simp only [feeds, halves]
    rw [ih, feed_half]
    congr 1
    have h : x % 2 ^ (j + 1) = (x % 2 ^ j) ^^^ 2 ^ j * (x / 2 ^ j % 2) := by
      have h0 := low_splitn j (x % 2 ^ (j + 1))
      rw [Nat.mod_mod_of_dvd x (Nat.pow_dvd_pow 2 (by omega))] at h0
      have h1 : x % 2 ^ (j + 1) / 2 ^ j = x / 2 ^ j % 2 := by
        rw [Nat.pow_succ]
        exact Nat.mod_mul_right_div_self x (2 ^ j) 2
      rw [h1] at h0
      exact h0
    rw [h, ← Nat.xor_assoc, halves_even]
theorem nib_feeds (r x : Nat) (hx : x < 16) : nib r x = feeds 4 r x := by
  rw [feeds_halves]
  unfold nib row
  have h0 := low_splitn 4 (r ^^^ x)
  have h1 : (r ^^^ x) / 2 ^ 4 = r / 16 := by rw [Nat.xor_div_two_pow, show x / 2 ^ 4 = 0 by omega, Nat.xor_zero]
  rw [h1] at h0
  rw [show x % 2 ^ 4 = x by omega]
  rw [h0, halves_even, Nat.xor_comm]
  congr 2
  rw [← h0]
theorem feeds_add (i : Nat) : ∀ j r x, feeds (j + i) r x = feeds i (feeds j r x) (x / 2 ^ j) := by
  induction i with
  | zero => intro j r x; rfl
  | succ i ih =>
    intro j r x
    rw [← Nat.add_assoc]
    simp only [feeds]
    rw [ih]
    congr 1
    rw [Nat.div_div_eq_div_mul, Nat.pow_add]
theorem feeds_mod (j r x : Nat) : feeds j r (x % 2 ^ j) = feeds j r x := by rw [feeds_halves, feeds_halves, Nat.mod_mod]
/-- Byte by byte. -/
theorem come1_feeds (r : Nat) (x : UInt8) : come1 r x = feeds 8 r x.toNat := by
  have hx := x.toNat_lt
  unfold come1
  rw [nib_feeds _ _ (by omega), nib_feeds _ _ (by omega)]
  rw [show (8 : Nat) = 4 + 4 from rfl, feeds_add]
  rw [show x.toNat % 16 = x.toNat % 2 ^ 4 from rfl, feeds_mod]
end Go.Proofs.Ytpcapijakenjbaa.Vs
