/- pack: the reader. -/
import Derived.Test.YtpmbeldmclcjlaaVpA
set_option linter.unusedVariables false
set_option linter.unusedSimpArgs false
namespace Go.Proofs.Ytpmbeldmclcjlaa.Vs
open Go.RowKit
set_option maxRecDepth 100000
abbrev rdr (b : List UInt8) (bad : Bool) : Ob := .cells 228 [bytes b, bool bad]
theorem read_fn (b : List UInt8) (hb : b.length ≤ 140737488355328) : Fn Try.prog 86 [bytes b] [] (.ptr 0 0) [rdr b false] := by
  refine en Try.func86 (hfr := by (simp only [Try.ntmps86, go_sem, Nat.reduceSub, Nat.reduceAdd]; rfl)) ?_
  repeat' (first | exact absurd hb Bool.false_ne_true | exact absurd hb.symm Bool.false_ne_true | refine W.seq ?_ | refine W.block ?_ | (refine rg [] ?_; intro K hK) | (refine dr [] ?_; intro K hK) | refine op ?_ | refine sk ?_ | (refine nk hK ?_; clear hK K) | (refine nd hK ?_; clear hK K) | refine sp ?_ | refine ex ?_ | (refine gs (fun hb => ?_) (fun hb => ?_) <;> replace hb := nb hb <;> try exact noB hb) | (refine cd (fun hb => ?_) (fun hb => ?_) <;> replace hb := nb hb <;> try exact noB hb) | (with_reducible refine Exists.intro _ (And.intro rfl ?_)) | ((with_reducible refine And.intro ?_ ?_); (focus exact sdA)) | fail)
  refine W.ent (sb [2] ((ay 2 (.ptr 0 0 :: ay 5 []))) [rdr b false]) ?_
  refine rt ?_
  refine fin ?_
  exact .rfl
theorem take_fn (b : List UInt8) (bad : Bool) (n : Nat) : Fn Try.prog 141 [.ptr 0 0, i64 n] [rdr b bad] (if bad = true ∨ b.length < n then .tup [bytes [], bool false] else .tup [bytes (b.take n), bool true]) [if bad = true ∨ b.length < n then rdr b true else rdr (b.drop n) false] := by
  refine en Try.func141 (hfr := by (simp only [Try.ntmps141, go_sem, Nat.reduceSub, Nat.reduceAdd]; rfl)) ?_
  repeat' (first | exact absurd hb Bool.false_ne_true | exact absurd hb.symm Bool.false_ne_true | refine W.seq ?_ | refine W.block ?_ | (refine rg [] ?_; intro K hK) | (refine dr [] ?_; intro K hK) | refine op ?_ | refine sk ?_ | (refine nk hK ?_; clear hK K) | (refine nd hK ?_; clear hK K) | refine sp ?_ | refine ex ?_ | (refine gs (fun hb => ?_) (fun hb => ?_) <;> replace hb := nb hb <;> try exact noB hb) | (refine cd (fun hb => ?_) (fun hb => ?_) <;> replace hb := nb hb <;> try exact noB hb) | (with_reducible refine Exists.intro _ (And.intro rfl ?_)) | ((with_reducible refine And.intro ?_ ?_); (focus exact sdA)) | fail)
  · subst hb
    rw [if_pos (.inl rfl), if_pos (.inl rfl)]
    refine rt ?_
    refine fin ?_
    exact wqA
  · (try simp only [Bool.not_eq_false', Bool.not_eq_true', beq_iff_eq, beq_eq_false_iff_ne, bne_iff_ne, bne_eq_false_iff_eq, ne_eq, Bool.not_false, Bool.not_true, Bool.false_eq_true, Bool.true_eq_false, wrap8, wrap16, wrap32, wrapI, wrapU, fdiv8, fdiv32, List.length_drop, List.length_take, Int.toNat_natCast, decide_eq_true_eq, decide_eq_false_iff_not] at hb)
    have hc : bad = true ∨ b.length < n := .inr (by omega)
    rw [if_pos hc, if_pos hc]
    refine rt ?_
    refine fin ?_
    exact wqA
  · (try simp only [Bool.not_eq_false', Bool.not_eq_true', beq_iff_eq, beq_eq_false_iff_ne, bne_iff_ne, bne_eq_false_iff_eq, ne_eq, Bool.not_false, Bool.not_true, Bool.false_eq_true, Bool.true_eq_false, wrap8, wrap16, wrap32, wrapI, wrapU, fdiv8, fdiv32, List.length_drop, List.length_take, Int.toNat_natCast, decide_eq_true_eq, decide_eq_false_iff_not] at hb)
    have hc : ¬ (bad = true ∨ b.length < n) := by simp_all
    rw [if_neg hc, if_neg hc]
    refine W.ent (Ent.to (σ' := [rdr (b.drop n) false]) WkL.refl (by simp_all [List.take_of_length_le])) ?_
    refine rt ?_
    refine fin ?_
    exact wqA
    all_goals simp
def numOf (xs : List UInt8) : Nat := xs.foldl (fun n x => 256 * n + x.toNat) 0
theorem numOf_snoc (xs : List UInt8) (x : UInt8) : numOf (xs ++ [x]) = 256 * numOf xs + x.toNat := by simp [numOf]
theorem numOf_take (xs : List UInt8) (k : Nat) (x : UInt8) (h : xs[k]? = some x) : numOf (xs.take (k + 1)) = 256 * numOf (xs.take k) + x.toNat := by
  rw [← numOf_snoc, List.take_add_one, h]; rfl
theorem numOf_lt (xs : List UInt8) : ∀ k, numOf (xs.take k) < 256 ^ k
  | 0 => by simp [numOf]
  | k + 1 => by
    have ih := numOf_lt xs k
    cases hx : xs[k]? with
    | none =>
      rw [List.take_of_length_le (by have := List.getElem?_eq_none_iff.1 hx; omega)]
      rw [List.take_of_length_le (by have := List.getElem?_eq_none_iff.1 hx; omega)] at ih
      have : 256 ^ (k + 1) = 256 * 256 ^ k := by rw [Nat.pow_succ, Nat.mul_comm]
      omega
    | some x =>
      rw [numOf_take xs k x hx]
      have := x.toNat_lt
      have : 256 ^ (k + 1) = 256 * 256 ^ k := by rw [Nat.pow_succ, Nat.mul_comm]
      omega
theorem take_no {b : List UInt8} {bad : Bool} {n : Nat} (h : bad = true ∨ b.length < n) : Fn Try.prog 141 [.ptr 0 0, i64 n] [rdr b bad] (.tup [bytes [], bool false]) [rdr b true] := by
  have := take_fn b bad n
  rwa [if_pos h, if_pos h] at this
theorem take_ok {b : List UInt8} {n : Nat} (h : n ≤ b.length) : Fn Try.prog 141 [.ptr 0 0, i64 n] [rdr b false] (.tup [bytes (b.take n), bool true]) [rdr (b.drop n) false] := by
  have hc : ¬ (false = true ∨ b.length < n) := by simp; omega
  have := take_fn b false n
  rwa [if_neg hc, if_neg hc] at this
theorem rnumber_no (b : List UInt8) (bad : Bool) (k : Int) (h : k < 1 ∨ 8 < k) : Fn Try.prog 87 [.ptr 0 0, i64 k] [rdr b bad] (u64 0) [rdr b true] := by
  refine en Try.func87 (hfr := by (simp only [Try.ntmps87, go_sem, Nat.reduceSub, Nat.reduceAdd]; rfl)) ?_
  repeat' (first | exact absurd hb Bool.false_ne_true | exact absurd hb.symm Bool.false_ne_true | refine W.seq ?_ | refine W.block ?_ | (refine rg [] ?_; intro K hK) | (refine dr [] ?_; intro K hK) | refine op ?_ | refine sk ?_ | (refine nk hK ?_; clear hK K) | (refine nd hK ?_; clear hK K) | refine sp ?_ | refine ex ?_ | (refine gs (fun hb => ?_) (fun hb => ?_) <;> replace hb := nb hb <;> try exact noB hb) | (refine cd (fun hb => ?_) (fun hb => ?_) <;> replace hb := nb hb <;> try exact noB hb) | (with_reducible refine Exists.intro _ (And.intro rfl ?_)) | ((with_reducible refine And.intro ?_ ?_); (focus exact sdA)) | fail)
  all_goals refine rt ?_
  all_goals exact fin .rfl
theorem rnumber_bad (b : List UInt8) (bad : Bool) (k : Nat) (h1 : 1 ≤ k) (h8 : k ≤ 8) (h : bad = true ∨ b.length < k) : Fn Try.prog 87 [.ptr 0 0, i64 k] [rdr b bad] (u64 0) [rdr b true] := by
  refine en Try.func87 (hfr := by (simp only [Try.ntmps87, go_sem, Nat.reduceSub, Nat.reduceAdd]; rfl)) ?_
  repeat' (first | exact absurd hb Bool.false_ne_true | exact absurd hb.symm Bool.false_ne_true | refine W.seq ?_ | refine W.block ?_ | (refine rg [] ?_; intro K hK) | (refine dr [] ?_; intro K hK) | (refine cle [0] 0 (take_no h) ?_) | refine op ?_ | refine sk ?_ | (refine nk hK ?_; clear hK K) | (refine nd hK ?_; clear hK K) | refine sp ?_ | refine ex ?_ | (refine gs (fun hb => ?_) (fun hb => ?_) <;> replace hb := nb hb <;> try exact noB hb) | (refine cd (fun hb => ?_) (fun hb => ?_) <;> replace hb := nb hb <;> try exact noB hb) | (with_reducible refine Exists.intro _ (And.intro rfl ?_)) | ((with_reducible refine And.intro ?_ ?_); (focus exact sdA)) | fail)
  refine W.lp (ι := Unit) (fun _ => (ay 8 (u64 0 :: ay 21 (bytes [] :: i64 0 :: i64 0 :: ay 10 [])))) (fun _ => [rdr b true]) (fun _ => True) (fun _ => 0) () trivial (Ent.to ?_ rfl) ?_
  · skip
    exact wkA
  · rintro ⟨⟩ _
    repeat' (first | exact absurd hb Bool.false_ne_true | exact absurd hb.symm Bool.false_ne_true | refine W.seq ?_ | refine W.block ?_ | (refine rg [] ?_; intro K hK) | (refine dr [] ?_; intro K hK) | refine op ?_ | refine sk ?_ | (refine nk hK ?_; clear hK K) | (refine nd hK ?_; clear hK K) | refine sp ?_ | refine ex ?_ | (refine gs (fun hb => ?_) (fun hb => ?_) <;> replace hb := nb hb <;> try exact noB hb) | (refine cd (fun hb => ?_) (fun hb => ?_) <;> replace hb := nb hb <;> try exact noB hb) | (with_reducible refine Exists.intro _ (And.intro rfl ?_)) | ((with_reducible refine And.intro ?_ ?_); (focus exact sdA)) | fail)
    refine rt ?_
    exact fin .rfl
theorem rnumber_ok (b : List UInt8) (k : Nat) (h1 : 1 ≤ k) (h8 : k ≤ 8) (hB : k ≤ b.length) : Fn Try.prog 87 [.ptr 0 0, i64 k] [rdr b false] (u64 (numOf (b.take k))) [rdr (b.drop k) false] := by
  refine en Try.func87 (hfr := by (simp only [Try.ntmps87, go_sem, Nat.reduceSub, Nat.reduceAdd]; rfl)) ?_
  repeat' (first | exact absurd hb Bool.false_ne_true | exact absurd hb.symm Bool.false_ne_true | refine W.seq ?_ | refine W.block ?_ | (refine rg [] ?_; intro K hK) | (refine dr [] ?_; intro K hK) | (refine cle [0] 0 (take_ok hB) ?_) | refine op ?_ | refine sk ?_ | (refine nk hK ?_; clear hK K) | (refine nd hK ?_; clear hK K) | refine sp ?_ | refine ex ?_ | (refine gs (fun hb => ?_) (fun hb => ?_) <;> replace hb := nb hb <;> try exact noB hb) | (refine cd (fun hb => ?_) (fun hb => ?_) <;> replace hb := nb hb <;> try exact noB hb) | (with_reducible refine Exists.intro _ (And.intro rfl ?_)) | ((with_reducible refine And.intro ?_ ?_); (focus exact sdA)) | fail)
  have hl : (b.take k).length = k := by simp; omega
  generalize hxs : b.take k = xs at *
  refine W.lp (ι := Nat) (fun i => (ay 8 (u64 (numOf (xs.take i)) :: ay 21 (bytes xs :: i64 k :: i64 i :: ay 10 [])))) (fun _ => [rdr (b.drop k) false]) (fun i => i ≤ k) (fun i => k - i) 0 (Nat.zero_le _) (Ent.to ?_ rfl) ?_
  · skip
    exact wkA
  · intro i hi
    repeat' (first | exact absurd hb Bool.false_ne_true | exact absurd hb.symm Bool.false_ne_true | refine W.seq ?_ | refine W.block ?_ | (refine rg [] ?_; intro K hK) | (refine dr [] ?_; intro K hK) | refine op ?_ | refine sk ?_ | (refine nk hK ?_; clear hK K) | (refine nd hK ?_; clear hK K) | refine sp ?_ | refine ex ?_ | (refine gs (fun hb => ?_) (fun hb => ?_) <;> replace hb := nb hb <;> try exact noB hb) | (refine cd (fun hb => ?_) (fun hb => ?_) <;> replace hb := nb hb <;> try exact noB hb) | (with_reducible refine Exists.intro _ (And.intro rfl ?_)) | ((with_reducible refine And.intro ?_ ?_); (focus exact sdA)) | fail)
    · (try simp only [Bool.not_eq_false', Bool.not_eq_true', beq_iff_eq, beq_eq_false_iff_ne, bne_iff_ne, bne_eq_false_iff_eq, ne_eq, Bool.not_false, Bool.not_true, Bool.false_eq_true, Bool.true_eq_false, wrap8, wrap16, wrap32, wrapI, wrapU, fdiv8, fdiv32, List.length_drop, List.length_take, Int.toNat_natCast, decide_eq_true_eq, decide_eq_false_iff_not] at hb)
      have hb' : i < xs.length := by omega
      have hx : xs[i]? = some (xs.getD i 0) := by simp [List.getD, hb']
      refine nx (i + 1) (by omega) (by omega) (Ent.to ?_ rfl)
      have e1 := or8 (numOf (xs.take i)) (xs.getD i 0).toNat (by have := numOf_lt xs i; have : 256 ^ i ≤ 256 ^ 7 := Nat.pow_le_pow_right (by decide) (by omega); omega) (xs.getD i 0).toNat_lt
      rw [← numOf_take xs i _ hx] at e1
      exact wkA
      all_goals exact e1
    · (try simp only [Bool.not_eq_false', Bool.not_eq_true', beq_iff_eq, beq_eq_false_iff_ne, bne_iff_ne, bne_eq_false_iff_eq, ne_eq, Bool.not_false, Bool.not_true, Bool.false_eq_true, Bool.true_eq_false, wrap8, wrap16, wrap32, wrapI, wrapU, fdiv8, fdiv32, List.length_drop, List.length_take, Int.toNat_natCast, decide_eq_true_eq, decide_eq_false_iff_not] at hb)
      obtain rfl : i = k := by omega
      rw [List.take_of_length_le (by omega)]
      refine rt ?_
      exact fin .rfl
end Go.Proofs.Ytpmbeldmclcjlaa.Vs
