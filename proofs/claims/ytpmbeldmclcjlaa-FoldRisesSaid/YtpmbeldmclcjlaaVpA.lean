/- pack: numbers as bytes. -/
import Derived.Test.YtpmbeldmclcjlaaVsX
set_option linter.unusedVariables false
set_option linter.unusedSimpArgs false
namespace Go.Proofs.Ytpmbeldmclcjlaa.Vs
open Go.RowKit
set_option maxRecDepth 100000
def numB (n : Nat) : Nat → List UInt8
  | 0 => []
  | k + 1 => numB (n / 256) k ++ [UInt8.ofNat n]
@[simp, go_sem] theorem numB_len (n k : Nat) : (numB n k).length = k := by
  induction k generalizing n with
  | zero => rfl
  | succ k ih => simp [numB, ih]
theorem number_no (n : Int) (k : Int) (h : k < 1 ∨ 8 < k) : Fn Try.prog 77 [u64 n, i64 k] [] (bytes []) [] := by
  refine en Try.func77 (hfr := by (simp only [Try.ntmps77, go_sem, Nat.reduceSub, Nat.reduceAdd]; rfl)) ?_
  repeat' (first | exact absurd hb Bool.false_ne_true | exact absurd hb.symm Bool.false_ne_true | refine W.seq ?_ | refine W.block ?_ | (refine rg [] ?_; intro K hK) | (refine dr [] ?_; intro K hK) | refine op ?_ | refine sk ?_ | (refine nk hK ?_; clear hK K) | (refine nd hK ?_; clear hK K) | refine sp ?_ | refine ex ?_ | (refine gs (fun hb => ?_) (fun hb => ?_) <;> replace hb := nb hb <;> try exact noB hb) | (refine cd (fun hb => ?_) (fun hb => ?_) <;> replace hb := nb hb <;> try exact noB hb) | (with_reducible refine Exists.intro _ (And.intro rfl ?_)) | ((with_reducible refine And.intro ?_ ?_); (focus exact sdA)) | fail)
  all_goals refine rt ?_
  all_goals refine fin ?_
  all_goals exact .nil (by decide) rfl
theorem number_hd (n k : Nat) (h1 : 1 ≤ k) (h8 : k ≤ 8) (hn : n < 18446744073709551616) : Fn Try.prog 77 [u64 n, i64 k] [] (.hd 0 0 k) [.grw 5 1 0 k (((numB n k).map u8).map .d)] := by
  refine en Try.func77 (hfr := by (simp only [Try.ntmps77, go_sem, Nat.reduceSub, Nat.reduceAdd]; rfl)) ?_
  refine W.ent (Ent.more 1) ?_
  repeat' (first | exact absurd hb Bool.false_ne_true | exact absurd hb.symm Bool.false_ne_true | refine W.seq ?_ | refine W.block ?_ | (refine rg [] ?_; intro K hK) | (refine dr [] ?_; intro K hK) | refine op ?_ | refine sk ?_ | (refine nk hK ?_; clear hK K) | (refine nd hK ?_; clear hK K) | refine sp ?_ | refine ex ?_ | (refine gs (fun hb => ?_) (fun hb => ?_) <;> replace hb := nb hb <;> try exact noB hb) | (refine cd (fun hb => ?_) (fun hb => ?_) <;> replace hb := nb hb <;> try exact noB hb) | (with_reducible refine Exists.intro _ (And.intro rfl ?_)) | ((with_reducible refine And.intro ?_ ?_); (focus exact sdA)) | fail)
  · refine W.lp (ι := Nat × Nat × List UInt8) (fun x => (u64 x.2.1 :: i64 k :: ay 3 (.row 1 0 k k :: i64 ((x.1 : Int) - 1) :: ay 22 []))) (fun x => [.fresh, .cells 5 (((List.replicate x.1 0 ++ x.2.2).map u8).map .d)]) (fun x => x.1 + x.2.2.length = k ∧ x.2.1 < 18446744073709551616 ∧ numB n k = numB x.2.1 x.1 ++ x.2.2) (fun x => x.1) (k, n, []) ⟨by simp, hn, by simp⟩ ?_ ?_
    · refine Ent.to ?_ (by simp [flat_rep])
      exact wkA
    · rintro ⟨m, u, tl⟩ ⟨p1, p2, p3⟩
      dsimp only at *
      repeat' (first | exact absurd hb Bool.false_ne_true | exact absurd hb.symm Bool.false_ne_true | refine W.seq ?_ | refine W.block ?_ | (refine rg [] ?_; intro K hK) | (refine dr [] ?_; intro K hK) | refine op ?_ | refine sk ?_ | (refine nk hK ?_; clear hK K) | (refine nd hK ?_; clear hK K) | refine sp ?_ | refine ex ?_ | (refine gs (fun hb => ?_) (fun hb => ?_) <;> replace hb := nb hb <;> try exact noB hb) | (refine cd (fun hb => ?_) (fun hb => ?_) <;> replace hb := nb hb <;> try exact noB hb) | (with_reducible refine Exists.intro _ (And.intro rfl ?_)) | ((with_reducible refine And.intro ?_ ?_); (focus exact sdA)) | fail)
      · (try simp only [Bool.not_eq_false', Bool.not_eq_true', beq_iff_eq, beq_eq_false_iff_ne, bne_iff_ne, bne_eq_false_iff_eq, ne_eq, Bool.not_false, Bool.not_true, Bool.false_eq_true, Bool.true_eq_false, wrap8, wrap16, wrap32, wrapI, wrapU, fdiv8, fdiv32, List.length_drop, List.length_take, Int.toNat_natCast, decide_eq_true_eq, decide_eq_false_iff_not] at hb)
        obtain ⟨m, rfl⟩ : ∃ m', m = m' + 1 := ⟨m - 1, by omega⟩
        refine nx (m, u / 256, UInt8.ofNat u :: tl) ⟨by simp at *; omega, by simp only; omega, by simp [p3, numB]⟩ (by simp) (Ent.to ?_ ?_)
        · dsimp only
          exact wkA
        · dsimp only
          rw [show (IntKind.u8.wrap (u : Int)) = (((UInt8.ofNat u).toNat : Nat) : Int) from (u8_of u).symm, show (((m + 1 : Nat) : Int) - 1).toNat = m by omega, map_set V.d, map_set u8, set_rep]
      · (try simp only [Bool.not_eq_false', Bool.not_eq_true', beq_iff_eq, beq_eq_false_iff_ne, bne_iff_ne, bne_eq_false_iff_eq, ne_eq, Bool.not_false, Bool.not_true, Bool.false_eq_true, Bool.true_eq_false, wrap8, wrap16, wrap32, wrapI, wrapU, fdiv8, fdiv32, List.length_drop, List.length_take, Int.toNat_natCast, decide_eq_true_eq, decide_eq_false_iff_not] at hb)
        obtain rfl : m = 0 := by omega
        refine W.ent (Ent.rowHd (i := 1) (j := 0) (q := 1) (n := k) (fr' := (ay 4 (.hd 0 0 k :: ay 24 []))) rfl rfl (by simp; omega) (by omega) (by omega) ?_) ?_
        · repeat' (first | exact RhL.nil | refine RhL.hd rfl rfl ?_ | refine RhL.cons Wk.any ?_)
        · have p4 : (List.replicate 0 0 ++ tl : List UInt8) = numB n k := p3.symm
          rw [p4]
          refine W.ent (sb [0] ((ay 4 (.hd 0 0 k :: ay 24 []))) [.grw 5 1 0 k (((numB n k).map u8).map .d)]) ?_
          refine rt ?_
          exact fin .rfl
theorem number_fn (n k : Nat) (h1 : 1 ≤ k) (h8 : k ≤ 8) (hn : n < 18446744073709551616) : Fn Try.prog 77 [u64 n, i64 k] [] (bytes (numB n k)) [] :=
  (number_hd n k h1 h8 hn).frz (by decide) (elems_map _) (by simp)
end Go.Proofs.Ytpmbeldmclcjlaa.Vs
