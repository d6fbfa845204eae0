/- the references of layers 1 and 2. -/
import Derived.Test.YtpmbeldmclcjlaaVpB
set_option linter.unusedVariables false
set_option linter.unusedSimpArgs false
namespace Go.Proofs.Ytpmbeldmclcjlaa.Vs
open Go.RowKit
set_option maxRecDepth 100000
theorem xnumber_fn : ∀ (k n : Nat), n < 18446744073709551616 → k ≤ 8 → Fn Try.prog 91 [u64 n, i64 k] [] (.own 1 ((numB n k).map u8) 0) [.cap 5 1 k]
  | 0, n, hn, hk => by
    refine en Try.func91 (hfr := by (simp only [Try.ntmps91, go_sem, Nat.reduceSub, Nat.reduceAdd]; rfl)) ?_
    refine W.ent (Ent.more 1) ?_
    repeat' (first | exact absurd hb Bool.false_ne_true | exact absurd hb.symm Bool.false_ne_true | refine W.seq ?_ | refine W.block ?_ | (refine rg [] ?_; intro K hK) | (refine dr [] ?_; intro K hK) | refine op ?_ | refine sk ?_ | (refine nk hK ?_; clear hK K) | (refine nd hK ?_; clear hK K) | refine sp ?_ | refine ex ?_ | (refine gs (fun hb => ?_) (fun hb => ?_) <;> replace hb := nb hb <;> try exact noB hb) | (refine cd (fun hb => ?_) (fun hb => ?_) <;> replace hb := nb hb <;> try exact noB hb) | (with_reducible refine Exists.intro _ (And.intro rfl ?_)) | ((with_reducible refine And.intro ?_ ?_); (focus exact sdA)) | fail)
    refine W.ent (Ent.nilOwn 5 (i := 0) (q := 1) (fr' := (ay 4 (.own 1 [] 0 :: ay 12 []))) rfl (by decide) ?_) ?_
    · skip
      repeat' (first | exact NoL.nil | refine NoL.own ?_ | refine NoL.cons ?_ ?_ | exact Wk.any | exact Wk.rfl)
    refine rt ?_
    exact fin .rfl
  | k + 1, n, hn, hk => by
    have ih := xnumber_fn k (n / 256) (by omega) (by omega)
    refine en Try.func91 (hfr := by (simp only [Try.ntmps91, go_sem, Nat.reduceSub, Nat.reduceAdd]; rfl)) ?_
    refine W.ent (Ent.more 1) ?_
    repeat' (first | exact absurd hb Bool.false_ne_true | exact absurd hb.symm Bool.false_ne_true | refine W.seq ?_ | refine W.block ?_ | (refine rg [] ?_; intro K hK) | (refine dr [] ?_; intro K hK) | (refine cle [0] 1 ih ?_) | refine op ?_ | refine sk ?_ | (refine nk hK ?_; clear hK K) | (refine nd hK ?_; clear hK K) | refine sp ?_ | refine ex ?_ | (refine gs (fun hb => ?_) (fun hb => ?_) <;> replace hb := nb hb <;> try exact noB hb) | (refine cd (fun hb => ?_) (fun hb => ?_) <;> replace hb := nb hb <;> try exact noB hb) | (with_reducible refine Exists.intro _ (And.intro rfl ?_)) | ((with_reducible refine And.intro ?_ ?_); (focus exact sdA)) | fail)
    refine rt ?_
    refine fin ?_
    refine Wk.owns rfl rfl ?_
    rw [numB, List.map_append, show IntKind.u8.wrap ((n : Int) % 256) = (((UInt8.ofNat n).toNat : Nat) : Int) by rw [u8_of, wrap8, wrap8]; omega]
    rfl
theorem xtext_fn (b : List UInt8) (hb : b.length ≤ 65535) : Fn Try.prog 92 [bytes b] [] (.own 1 ((numB b.length 2 ++ b).map u8) 0) [.cap 5 1 (2 + b.length)] := by
  refine en Try.func92 (hfr := by (simp only [Try.ntmps92, go_sem, Nat.reduceSub, Nat.reduceAdd]; rfl)) ?_
  refine W.ent (Ent.more 1) ?_
  repeat' (first | exact absurd hb Bool.false_ne_true | exact absurd hb.symm Bool.false_ne_true | refine W.seq ?_ | refine W.block ?_ | (refine rg [] ?_; intro K hK) | (refine dr [] ?_; intro K hK) | (refine cle [0] 1 (xnumber_fn 2 b.length (by omega) (by omega)) ?_) | refine op ?_ | refine sk ?_ | (refine nk hK ?_; clear hK K) | (refine nd hK ?_; clear hK K) | refine sp ?_ | refine ex ?_ | (refine gs (fun hb => ?_) (fun hb => ?_) <;> replace hb := nb hb <;> try exact noB hb) | (refine cd (fun hb => ?_) (fun hb => ?_) <;> replace hb := nb hb <;> try exact noB hb) | (with_reducible refine Exists.intro _ (And.intro rfl ?_)) | ((with_reducible refine And.intro ?_ ?_); (focus exact sdA)) | fail)
  refine rt ?_
  refine fin ?_
  refine Wk.owns rfl rfl ?_
  simp
theorem xrnumber_no (b : List UInt8) (bad : Bool) (k : Int) (h : bad = true ∨ k < 1 ∨ 8 < k ∨ (b.length : Int) < k) : Fn Try.prog 93 [.ptr 0 0, i64 k] [.cells 160 [bytes b, bool bad]] (u64 0) [.cells 160 [bytes b, bool true]] := by
  refine en Try.func93 (hfr := by (simp only [Try.ntmps93, go_sem, Nat.reduceSub, Nat.reduceAdd]; rfl)) ?_
  repeat' (first | exact absurd hb Bool.false_ne_true | exact absurd hb.symm Bool.false_ne_true | refine W.seq ?_ | refine W.block ?_ | (refine rg [] ?_; intro K hK) | (refine dr [] ?_; intro K hK) | refine op ?_ | refine sk ?_ | (refine nk hK ?_; clear hK K) | (refine nd hK ?_; clear hK K) | refine sp ?_ | refine ex ?_ | (refine gs (fun hb => ?_) (fun hb => ?_) <;> replace hb := nb hb <;> try exact noB hb) | (refine cd (fun hb => ?_) (fun hb => ?_) <;> replace hb := nb hb <;> try exact noB hb) | (with_reducible refine Exists.intro _ (And.intro rfl ?_)) | ((with_reducible refine And.intro ?_ ?_); (focus exact sdA)) | fail)
  all_goals first | (refine rt ?_; exact fin .rfl) | (exfalso; simp_all; done) | (exfalso; simp_all; omega)
theorem xrnumber_ok (b : List UInt8) (k : Nat) (h1 : 1 ≤ k) (h8 : k ≤ 8) (hB : k ≤ b.length) : Fn Try.prog 93 [.ptr 0 0, i64 k] [.cells 160 [bytes b, bool false]] (u64 (numOf (b.take k))) [.cells 160 [bytes (b.drop k), bool false]] := by
  refine en Try.func93 (hfr := by (simp only [Try.ntmps93, go_sem, Nat.reduceSub, Nat.reduceAdd]; rfl)) ?_
  repeat' (first | exact absurd hb Bool.false_ne_true | exact absurd hb.symm Bool.false_ne_true | refine W.seq ?_ | refine W.block ?_ | (refine rg [] ?_; intro K hK) | (refine dr [] ?_; intro K hK) | refine op ?_ | refine sk ?_ | (refine nk hK ?_; clear hK K) | (refine nd hK ?_; clear hK K) | refine sp ?_ | refine ex ?_ | (refine gs (fun hb => ?_) (fun hb => ?_) <;> replace hb := nb hb <;> try exact noB hb) | (refine cd (fun hb => ?_) (fun hb => ?_) <;> replace hb := nb hb <;> try exact noB hb) | (with_reducible refine Exists.intro _ (And.intro rfl ?_)) | ((with_reducible refine And.intro ?_ ?_); (focus exact sdA)) | fail)
  refine W.lp (ι := Nat) (fun i => (.ptr 0 0 :: i64 k :: ay 3 (u64 (numOf (b.take i)) :: i64 i :: ay 50 []))) (fun _ => [.cells 160 [bytes b, bool false]]) (fun i => i ≤ k) (fun i => k - i) 0 (Nat.zero_le _) (Ent.to ?_ rfl) ?_
  · skip
    exact wkA
  · intro i hi
    repeat' (first | exact absurd hb Bool.false_ne_true | exact absurd hb.symm Bool.false_ne_true | refine W.seq ?_ | refine W.block ?_ | (refine rg [] ?_; intro K hK) | (refine dr [] ?_; intro K hK) | refine op ?_ | refine sk ?_ | (refine nk hK ?_; clear hK K) | (refine nd hK ?_; clear hK K) | refine sp ?_ | refine ex ?_ | (refine gs (fun hb => ?_) (fun hb => ?_) <;> replace hb := nb hb <;> try exact noB hb) | (refine cd (fun hb => ?_) (fun hb => ?_) <;> replace hb := nb hb <;> try exact noB hb) | (with_reducible refine Exists.intro _ (And.intro rfl ?_)) | ((with_reducible refine And.intro ?_ ?_); (focus exact sdA)) | fail)
    · have hx : b[i]? = some (b.getD i 0) := by
        have hb' : i < b.length := by omega
        simp [List.getD, hb']
      have e0 := numOf_lt b i
      have e2 : 256 ^ i ≤ 256 ^ 7 := Nat.pow_le_pow_right (by decide) (by omega)
      have e3 := (b.getD i 0).toNat_lt
      refine nx (i + 1) (by omega) (by omega) (Ent.to ?_ rfl)
      rw [numOf_take b i _ hx]
      exact wkA
    · obtain rfl : i = k := by omega
      refine W.ent (Ent.to (σ' := [.cells 160 [bytes (b.drop i), bool false]]) WkL.refl (by simp [List.take_of_length_le])) ?_
      refine rt ?_
      exact fin .rfl
theorem xrtext_no (b : List UInt8) (bad : Bool) (h : bad = true ∨ b.length < 2 ∨ b.length - 2 < numOf (b.take 2)) : ∃ b', Fn Try.prog 94 [.ptr 0 0] [.cells 160 [bytes b, bool bad]] (bytes []) [.cells 160 [bytes b', bool true]] := by
  by_cases h0 : bad = true ∨ b.length < 2
  · refine ⟨b, ?_⟩
    have c := xrnumber_no b bad 2 (by rcases h0 with h | h; exact .inl h; exact .inr (.inr (.inr (by omega))))
    refine en Try.func94 (hfr := by (simp only [Try.ntmps94, go_sem, Nat.reduceSub, Nat.reduceAdd]; rfl)) ?_
    repeat' (first | exact absurd hb Bool.false_ne_true | exact absurd hb.symm Bool.false_ne_true | refine W.seq ?_ | refine W.block ?_ | (refine rg [] ?_; intro K hK) | (refine dr [] ?_; intro K hK) | (refine cle [0] 0 c ?_) | refine op ?_ | refine sk ?_ | (refine nk hK ?_; clear hK K) | (refine nd hK ?_; clear hK K) | refine sp ?_ | refine ex ?_ | (refine gs (fun hb => ?_) (fun hb => ?_) <;> replace hb := nb hb <;> try exact noB hb) | (refine cd (fun hb => ?_) (fun hb => ?_) <;> replace hb := nb hb <;> try exact noB hb) | (with_reducible refine Exists.intro _ (And.intro rfl ?_)) | ((with_reducible refine And.intro ?_ ?_); (focus exact sdA)) | fail)
    refine rt ?_
    refine fin ?_
    exact wqA
  · obtain rfl : bad = false := by simpa using fun e => h0 (.inl e)
    refine ⟨b.drop 2, ?_⟩
    have hl := numOf_lt b 2
    have h : b.length - 2 < numOf (b.take 2) := by simp at h0 h; omega
    have c := xrnumber_ok b 2 (by decide) (by decide) (by omega)
    refine en Try.func94 (hfr := by (simp only [Try.ntmps94, go_sem, Nat.reduceSub, Nat.reduceAdd]; rfl)) ?_
    repeat' (first | exact absurd hb Bool.false_ne_true | exact absurd hb.symm Bool.false_ne_true | refine W.seq ?_ | refine W.block ?_ | (refine rg [] ?_; intro K hK) | (refine dr [] ?_; intro K hK) | (refine cle [0] 0 c ?_) | refine op ?_ | refine sk ?_ | (refine nk hK ?_; clear hK K) | (refine nd hK ?_; clear hK K) | refine sp ?_ | refine ex ?_ | (refine gs (fun hb => ?_) (fun hb => ?_) <;> replace hb := nb hb <;> try exact noB hb) | (refine cd (fun hb => ?_) (fun hb => ?_) <;> replace hb := nb hb <;> try exact noB hb) | (with_reducible refine Exists.intro _ (And.intro rfl ?_)) | ((with_reducible refine And.intro ?_ ?_); (focus exact sdA)) | fail)
    refine rt ?_
    refine fin ?_
    exact wqA
theorem xrtext_ok (b : List UInt8) (h2 : 2 ≤ b.length) (h : numOf (b.take 2) ≤ b.length - 2) : Fn Try.prog 94 [.ptr 0 0] [.cells 160 [bytes b, bool false]] (bytes ((b.drop 2).take (numOf (b.take 2)))) [.cells 160 [bytes ((b.drop 2).drop (numOf (b.take 2))), bool false]] := by
  have hl := numOf_lt b 2
  have c := xrnumber_ok b 2 (by decide) (by decide) h2
  refine en Try.func94 (hfr := by (simp only [Try.ntmps94, go_sem, Nat.reduceSub, Nat.reduceAdd]; rfl)) ?_
  repeat' (first | exact absurd hb Bool.false_ne_true | exact absurd hb.symm Bool.false_ne_true | refine W.seq ?_ | refine W.block ?_ | (refine rg [] ?_; intro K hK) | (refine dr [] ?_; intro K hK) | (refine cle [0] 0 c ?_) | refine op ?_ | refine sk ?_ | (refine nk hK ?_; clear hK K) | (refine nd hK ?_; clear hK K) | refine sp ?_ | refine ex ?_ | (refine gs (fun hb => ?_) (fun hb => ?_) <;> replace hb := nb hb <;> try exact noB hb) | (refine cd (fun hb => ?_) (fun hb => ?_) <;> replace hb := nb hb <;> try exact noB hb) | (with_reducible refine Exists.intro _ (And.intro rfl ?_)) | ((with_reducible refine And.intro ?_ ?_); (focus exact sdA)) | fail)
  have e1 : (IntKind.i64.wrap ((numOf (b.take 2) : Nat) : Int)).toNat = numOf (b.take 2) := by simp only [Bool.not_eq_false', Bool.not_eq_true', beq_iff_eq, beq_eq_false_iff_ne, bne_iff_ne, bne_eq_false_iff_eq, ne_eq, Bool.not_false, Bool.not_true, Bool.false_eq_true, Bool.true_eq_false, wrap8, wrap16, wrap32, wrapI, wrapU, fdiv8, fdiv32, List.length_drop, List.length_take, Int.toNat_natCast, decide_eq_true_eq, decide_eq_false_iff_not]; omega
  rw [e1]
  refine rt ?_
  refine fin ?_
  exact wqA
end Go.Proofs.Ytpmbeldmclcjlaa.Vs
