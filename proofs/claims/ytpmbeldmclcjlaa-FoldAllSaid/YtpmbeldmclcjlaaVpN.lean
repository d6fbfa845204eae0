/- pack: numbers put and read. -/
import Derived.Test.YtpmbeldmclcjlaaVpB
set_option linter.unusedVariables false
set_option linter.unusedSimpArgs false
namespace Go.Proofs.Ytpmbeldmclcjlaa.Vs
open Go.RowKit
theorem numOf_numB : ∀ (k n : Nat), n < 256 ^ k → numOf (numB n k) = n
  | 0, n, h => by simp at h; subst h; rfl
  | k + 1, n, h => by
    rw [numB, numOf_snoc, numOf_numB k (n / 256) (by rw [Nat.pow_succ] at h; omega)]
    simp [UInt8.toNat_ofNat']; omega
theorem numB_numOf (xs : List UInt8) : ∀ k, k ≤ xs.length → numB (numOf (xs.take k)) k = xs.take k
  | 0, _ => by simp [numB]
  | k + 1, h => by
    have hx : xs[k]? = some (xs.getD k 0) := by rw [List.getD_eq_getElem?_getD, List.getElem?_eq_getElem (by omega)]; rfl
    have hlt := (xs.getD k 0).toNat_lt
    rw [numOf_take xs k _ hx, numB, show (256 * numOf (xs.take k) + (xs.getD k 0).toNat) / 256 = numOf (xs.take k) by omega, numB_numOf xs k (by omega), List.take_add_one, hx]
    congr 1
    simp only [Option.toList_some, List.cons.injEq, and_true]
    apply UInt8.toNat_inj.1
    rw [UInt8.toNat_ofNat']; omega
end Go.Proofs.Ytpmbeldmclcjlaa.Vs
