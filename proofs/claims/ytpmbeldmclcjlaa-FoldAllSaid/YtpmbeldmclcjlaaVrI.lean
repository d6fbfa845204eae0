/- records: their bytes. -/
import Derived.Test.YtpmbeldmclcjlaaVrF
set_option linter.unusedVariables false
set_option linter.unusedSimpArgs false
namespace Go.Proofs.Ytpmbeldmclcjlaa.Vs
open Go.RowKit
set_option maxRecDepth 100000
theorem number_int (n : Int) (k : Nat) (h1 : 1 ≤ k) (h8 : k ≤ 8) (h0 : 0 ≤ n) (hn : n < 18446744073709551616) : Fn Try.prog 77 [.d (.int .u64 n), i64 k] [] (bytes (numB n.toNat k)) [] := by
  have h := number_fn n.toNat k h1 h8 (by omega)
  rw [show (u64 (n.toNat : Nat) : V) = .d (.int .u64 n) by rw [show ((n.toNat : Nat) : Int) = n by omega]] at h
  exact h
/-- What stands for a text. -/
def txtB (b : List UInt8) : List UInt8 := numB b.length 2 ++ b
theorem ptext_fn (b xs : List UInt8) (hb : b.length ≤ 65535) (hx : xs.length ≤ 65535) : Fn Try.prog 78 [bytes b, .ptr 0 0] [.cells 33 [.own 1 (xs.map u8) 1], .cap 5 1 xs.length] (.tup []) [.cells 33 [.own 1 ((xs ++ txtB b).map u8) 1], .cap 5 1 (xs ++ txtB b).length] := by
  have c := text_fn b hb
  have hl : (txtB b).length = 2 + b.length := by simp [txtB]
  refine en Try.func78 (hfr := by (simp only [Try.ntmps78, go_sem, Nat.reduceSub, Nat.reduceAdd]; rfl)) ?_
  repeat' (first | exact absurd hb Bool.false_ne_true | exact absurd hb.symm Bool.false_ne_true | refine W.seq ?_ | refine W.block ?_ | (refine rg [] ?_; intro K hK) | (refine dr [] ?_; intro K hK) | refine cl (c) ?_ | refine oq ?_ | refine sk ?_ | (refine nk hK ?_; clear hK K) | (refine nd hK ?_; clear hK K) | refine sp ?_ | refine ex ?_ | (refine gs (fun hb => ?_) (fun hb => ?_) <;> replace hb := nb hb <;> try exact noB hb) | (refine cd (fun hb => ?_) (fun hb => ?_) <;> replace hb := nb hb <;> try exact noB hb) | (with_reducible refine Exists.intro _ (And.intro rfl ?_)) | ((with_reducible refine And.intro ?_ ?_); (focus exact sdA)) | fail)
  rw [hl]
  refine fin ?_
  exact .rfl
theorem put_no (r : RecS) (h : ¬ r.may) : Fn Try.prog 23 [r.v] [] (.tup [bytes [], i64 1]) [] := by
  have c := may_fn r
  rw [decide_eq_false h] at c
  refine en Try.func23 (hfr := by (simp only [Try.ntmps23, go_sem, Nat.reduceSub, Nat.reduceAdd]; rfl)) ?_
  repeat' (first | exact absurd hb Bool.false_ne_true | exact absurd hb.symm Bool.false_ne_true | refine W.seq ?_ | refine W.block ?_ | (refine rg [] ?_; intro K hK) | (refine dr [] ?_; intro K hK) | refine cl (c) ?_ | refine oq ?_ | refine sk ?_ | (refine nk hK ?_; clear hK K) | (refine nd hK ?_; clear hK K) | refine sp ?_ | refine ex ?_ | (refine gs (fun hb => ?_) (fun hb => ?_) <;> replace hb := nb hb <;> try exact noB hb) | (refine cd (fun hb => ?_) (fun hb => ?_) <;> replace hb := nb hb <;> try exact noB hb) | (with_reducible refine Exists.intro _ (And.intro rfl ?_)) | ((with_reducible refine And.intro ?_ ?_); (focus exact sdA)) | fail)
  all_goals (refine rt ?_; refine fin ?_; exact wqA)
/-- An Intent's bytes, up to the i-th number. -/
def RecS.o2 (r : RecS) : Nat → List UInt8
  | 0 => [2]
  | 1 => [2] ++ numB r.vis.toNat 2
  | 2 => ([2] ++ numB r.vis.toNat 2) ++ numB r.st.toNat 1
  | _ => (([2] ++ numB r.vis.toNat 2) ++ numB r.st.toNat 1) ++ numB r.try'.toNat 1
set_option maxHeartbeats 4000000 in
theorem put_fn2 (r : RecS) (hk : r.kind = 2) (h : r.may) : Fn Try.prog 23 [r.v] [] (.tup [bytes (r.o2 3), i64 0]) [] := by
  have c := may_fn r
  rw [decide_eq_true h] at c
  have hm := ((may_iff2 r hk).1 h).2.1
  unfold RecS.rng2 inR at hm
  simp only [Nat.reduceLeDiff, true_implies, forall_const] at hm
  have c1 := fields_fn2 r hk
  have h1 : ¬ r.kind = 1 := by omega
  have h3 : ¬ r.kind = 3 := by omega
  have n1 := number_int r.vis 2 (by decide) (by decide) (by omega) (by omega)
  have n2 := number_int r.st 1 (by decide) (by decide) (by omega) (by omega)
  have n3 := number_int r.try' 1 (by decide) (by decide) (by omega) (by omega)
  have l0 : (r.o2 0).length = 1 := rfl
  have l1 : (r.o2 1).length = 3 := by simp [RecS.o2]
  have l2 : (r.o2 2).length = 4 := by simp [RecS.o2]
  have l3 : (r.o2 3).length = 5 := by simp [RecS.o2]
  refine en Try.func23 (hfr := by (simp only [Try.ntmps23, go_sem, Nat.reduceSub, Nat.reduceAdd]; rfl)) ?_
  repeat' (first | exact absurd hb Bool.false_ne_true | exact absurd hb.symm Bool.false_ne_true | refine W.seq ?_ | refine W.block ?_ | (refine rgx [4] [] ?_; intro K hK) | (refine drx [4] [] ?_; intro K hK) | refine cl (c) ?_ | refine oq ?_ | refine sk ?_ | (refine nk hK ?_; clear hK K) | (refine nd hK ?_; clear hK K) | refine sp ?_ | refine ex ?_ | (refine gs (fun hb => ?_) (fun hb => ?_) <;> replace hb := nb hb <;> try exact noB hb) | (refine cd (fun hb => ?_) (fun hb => ?_) <;> replace hb := nb hb <;> try exact noB hb) | (with_reducible refine Exists.intro _ (And.intro rfl ?_)) | ((with_reducible refine And.intro ?_ ?_); (focus exact sdA)) | fail)
  refine W.ent (Ent.more 1) ?_
  repeat' (first | exact absurd hb Bool.false_ne_true | exact absurd hb.symm Bool.false_ne_true | refine W.seq ?_ | refine W.block ?_ | (refine rgx [5] [] ?_; intro K hK) | (refine drx [5] [] ?_; intro K hK) | refine cle [0, 3] 1 (c1) ?_ | refine oq ?_ | refine sk ?_ | (refine nk hK ?_; clear hK K) | (refine nd hK ?_; clear hK K) | refine sp ?_ | refine ex ?_ | (refine gs (fun hb => ?_) (fun hb => ?_) <;> replace hb := nb hb <;> try exact noB hb) | (refine cd (fun hb => ?_) (fun hb => ?_) <;> replace hb := nb hb <;> try exact noB hb) | (with_reducible refine Exists.intro _ (And.intro rfl ?_)) | ((with_reducible refine And.intro ?_ ?_); (focus exact sdA)) | fail)
  rw [show (D.int IntKind.u8 r.kind) = u8 2 by rw [hk]; rfl]
  refine W.lp (ι := Nat) (fun i => (ay 1 (.ptr 0 0 :: ay 1 (i64 0 :: .ptr 2 0 :: ay 12 (.row 3 0 3 3 :: i64 3 :: i64 i :: ay 49 []))))) (fun i => [.cells 35 r.cells, .cap 5 1 (r.o2 i).length, .cells 33 [.own 1 ((r.o2 i).map u8) 1], .cells 144 (flds2 0)]) (fun i => i ≤ 3) (fun i => 3 - i) 0 (by decide) (Ent.to ?_ rfl) ?_
  · skip
    exact wkA
  · intro i hi
    obtain rfl | rfl | rfl | rfl : i = 0 ∨ i = 1 ∨ i = 2 ∨ i = 3 := by omega
    · skip
      repeat' (first | exact absurd hb Bool.false_ne_true | exact absurd hb.symm Bool.false_ne_true | refine W.seq ?_ | refine W.block ?_ | (refine rg [] ?_; intro K hK) | (refine dr [] ?_; intro K hK) | refine cl (n1) ?_ | refine oq ?_ | refine sk ?_ | (refine nk hK ?_; clear hK K) | (refine nd hK ?_; clear hK K) | refine sp ?_ | refine ex ?_ | (refine gs (fun hb => ?_) (fun hb => ?_) <;> replace hb := nb hb <;> try exact noB hb) | (refine cd (fun hb => ?_) (fun hb => ?_) <;> replace hb := nb hb <;> try exact noB hb) | (with_reducible refine Exists.intro _ (And.intro rfl ?_)) | ((with_reducible refine And.intro ?_ ?_); (focus exact sdA)) | fail)
      refine nx 1 (by decide) (by decide) (sb [0, 1, 2, 3] _ _ (hf := ?_))
      exact wkA
    · skip
      repeat' (first | exact absurd hb Bool.false_ne_true | exact absurd hb.symm Bool.false_ne_true | refine W.seq ?_ | refine W.block ?_ | (refine rg [] ?_; intro K hK) | (refine dr [] ?_; intro K hK) | refine cl (n2) ?_ | refine oq ?_ | refine sk ?_ | (refine nk hK ?_; clear hK K) | (refine nd hK ?_; clear hK K) | refine sp ?_ | refine ex ?_ | (refine gs (fun hb => ?_) (fun hb => ?_) <;> replace hb := nb hb <;> try exact noB hb) | (refine cd (fun hb => ?_) (fun hb => ?_) <;> replace hb := nb hb <;> try exact noB hb) | (with_reducible refine Exists.intro _ (And.intro rfl ?_)) | ((with_reducible refine And.intro ?_ ?_); (focus exact sdA)) | fail)
      refine nx 2 (by decide) (by decide) (sb [0, 1, 2, 3] _ _ (hf := ?_))
      exact wkA
    · skip
      repeat' (first | exact absurd hb Bool.false_ne_true | exact absurd hb.symm Bool.false_ne_true | refine W.seq ?_ | refine W.block ?_ | (refine rg [] ?_; intro K hK) | (refine dr [] ?_; intro K hK) | refine cl (n3) ?_ | refine oq ?_ | refine sk ?_ | (refine nk hK ?_; clear hK K) | (refine nd hK ?_; clear hK K) | refine sp ?_ | refine ex ?_ | (refine gs (fun hb => ?_) (fun hb => ?_) <;> replace hb := nb hb <;> try exact noB hb) | (refine cd (fun hb => ?_) (fun hb => ?_) <;> replace hb := nb hb <;> try exact noB hb) | (with_reducible refine Exists.intro _ (And.intro rfl ?_)) | ((with_reducible refine And.intro ?_ ?_); (focus exact sdA)) | fail)
      refine nx 3 (by decide) (by decide) (sb [0, 1, 2, 3] _ _ (hf := ?_))
      exact wkA
    · skip
      repeat' (first | exact absurd hb Bool.false_ne_true | exact absurd hb.symm Bool.false_ne_true | refine W.seq ?_ | refine W.block ?_ | (refine rg [] ?_; intro K hK) | (refine dr [] ?_; intro K hK) | refine oq ?_ | refine sk ?_ | (refine nk hK ?_; clear hK K) | (refine nd hK ?_; clear hK K) | refine sp ?_ | refine ex ?_ | (refine gs (fun hb => ?_) (fun hb => ?_) <;> replace hb := nb hb <;> try exact noB hb) | (refine cd (fun hb => ?_) (fun hb => ?_) <;> replace hb := nb hb <;> try exact noB hb) | (with_reducible refine Exists.intro _ (And.intro rfl ?_)) | ((with_reducible refine And.intro ?_ ?_); (focus exact sdA)) | fail)
      all_goals (refine rt ?_; refine fin ?_; exact wqA)
end Go.Proofs.Ytpmbeldmclcjlaa.Vs
