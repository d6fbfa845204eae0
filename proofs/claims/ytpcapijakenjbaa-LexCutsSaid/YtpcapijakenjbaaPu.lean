/- Plain steps for the printed functions: numbers, bytes, rounds. -/
import Derived.Test.YtpcapijakenjbaaKb
set_option linter.unusedVariables false
set_option linter.unusedSimpArgs false
namespace Go.Proofs.Ytpcapijakenjbaa.Sl
open Go.RowKit Go.Proofs.YtpcapijakenjbaaW.PrintWords
theorem wrap_nat (n : Nat) (h : n ≤ 9223372036854775807) : wrap64 (n : Int) = (n : Int) := by unfold wrap64; omega
theorem wrap_in {x : Int} (h0 : -9223372036854775808 ≤ x) (h : x ≤ 9223372036854775807) : wrap64 x = x := by unfold wrap64; omega
theorem rd_nb {s : List UInt8} {i : Nat} {c : UInt8} (h : s[i]? = some c) : rd (nb s) (i : Int) = (c.toNat : Int) := by
  unfold rd nb
  simp [List.getD, h]
theorem rd_nb' {s : List UInt8} {i : Nat} {x : Int} {c : UInt8} (hx : x = (i : Int)) (h : s[i]? = some c) : rd (nb s) x = (c.toNat : Int) := by subst hx; exact rd_nb h
theorem nb_len (s : List UInt8) : ((nb s).length : Int) = (s.length : Int) := by simp
theorem nb_take (s : List UInt8) (n : Nat) : (nb s).take n = nb (s.take n) := by simp [nb]
theorem nb_drop (s : List UInt8) (n : Nat) : (nb s).drop n = nb (s.drop n) := by simp [nb]
theorem nb_snoc (s : List UInt8) (c : UInt8) : nb s ++ [(c.toNat : Int)] = nb (s ++ [c]) := by simp [nb]
/-- Bytes that came in are bytes. -/
theorem nb_of_wf {l : List Int} (h : ∀ x ∈ l, (Lit.int .u8 x).wf = true) : nb (toB l) = l := nb_toB (okB_iff.2 fun x hx => by
  have := h x hx
  simp [Lit.wf] at this
  have h1 : IntKind.min .u8 = 0 := rfl
  have h2 : IntKind.max .u8 = 255 := rfl
  omega)
theorem strOfNums_nb (b : List UInt8) : (strOfNums (nb b)).toList = b := by
  unfold strOfNums nb
  simp only [List.map_map]
  have : ((fun n => UInt8.ofNat (Int.toNat n)) ∘ fun x : UInt8 => (x.toNat : Int)) = id := by funext x; simp
  simp [this]
end Go.Proofs.Ytpcapijakenjbaa.Sl
