/- records: may one be? -/
import Derived.Test.YtpmbeldmclcjlaaVrA
set_option linter.unusedVariables false
set_option linter.unusedSimpArgs false
namespace Go.Proofs.Ytpmbeldmclcjlaa.Vs
open Go.RowKit
set_option maxRecDepth 100000
structure RecS where
  kind : Int
  step : Int
  visit : Int
  tries : Int
  off : Int
  vars : List (List UInt8)
  vis : Int
  st : Int
  try' : Int
  to : Int
  ofs : Int
  vr : Int
  value : List UInt8
abbrev RecS.cells (r : RecS) : List V := [i64 r.kind, i64 r.step, i64 r.visit, i64 r.tries, i64 r.off, texts r.vars, i64 r.vis, i64 r.st, i64 r.try', i64 r.to, i64 r.ofs, i64 r.vr, bytes r.value]
abbrev RecS.v (r : RecS) : V := .agg r.cells
def inR (n a b : Int) : Prop := a ≤ n ∧ n ≤ b
instance (n a b : Int) : Decidable (inR n a b) := by unfold inR; exact inferInstance
def textsOK (l : List (List UInt8)) : Bool := l.all (fun b => decide (b.length ≤ 100)) && decide (l.length ≤ 8)
def RecS.noPoint (r : RecS) : Prop := r.step = 0 ∧ r.visit = 0 ∧ r.tries = 0 ∧ r.off = 0 ∧ r.vars = []
def RecS.noOut (r : RecS) : Prop := r.to = 0 ∧ r.ofs = 0 ∧ r.vr = 0 ∧ r.value = []
def RecS.noInt (r : RecS) : Prop := r.st = 0 ∧ r.try' = 0
def RecS.may1 (r : RecS) : Prop := r.noOut ∧ r.noInt ∧ r.vis = 0 ∧ inR r.step (-3) 29 ∧ inR r.visit 1 1001 ∧ inR r.tries 0 6 ∧ inR r.off 0 2147483647 ∧ textsOK r.vars = true
def RecS.may2 (r : RecS) : Prop := r.noPoint ∧ r.noOut ∧ inR r.vis 1 1001 ∧ inR r.st 0 29 ∧ inR r.try' 0 5
def RecS.may3 (r : RecS) : Prop := r.noPoint ∧ r.noInt ∧ inR r.vis 1 1001 ∧ inR r.to (-3) 29 ∧ inR r.ofs 0 2147483647 ∧ inR r.vr (-1) 7 ∧ r.value.length ≤ 100 ∧ (0 ≤ r.vr ∨ r.value = [])
instance (r : RecS) : Decidable r.noPoint := by unfold RecS.noPoint; exact inferInstance
instance (r : RecS) : Decidable r.noOut := by unfold RecS.noOut; exact inferInstance
instance (r : RecS) : Decidable r.noInt := by unfold RecS.noInt; exact inferInstance
instance (r : RecS) : Decidable r.may1 := by unfold RecS.may1; exact inferInstance
instance (r : RecS) : Decidable r.may2 := by unfold RecS.may2; exact inferInstance
instance (r : RecS) : Decidable r.may3 := by unfold RecS.may3; exact inferInstance
def RecS.may (r : RecS) : Prop := (r.kind = 1 ∧ r.may1) ∨ (r.kind = 2 ∧ r.may2) ∨ (r.kind = 3 ∧ r.may3)
instance (r : RecS) : Decidable r.may := by unfold RecS.may; exact inferInstance
theorem xin_fn (n a b : Int) : Fn Try.prog 85 [i64 n, i64 a, i64 b] [] (bool (decide (inR n a b))) [] := by
  refine en Try.func85 (hfr := by (simp only [Try.ntmps85, go_sem, Nat.reduceSub, Nat.reduceAdd]; rfl)) ?_
  repeat' (first | exact absurd hb Bool.false_ne_true | exact absurd hb.symm Bool.false_ne_true | refine W.seq ?_ | refine W.block ?_ | (refine rg [] ?_; intro K hK) | (refine dr [] ?_; intro K hK) | refine oq ?_ | refine sk ?_ | (refine nk hK ?_; clear hK K) | (refine nd hK ?_; clear hK K) | refine sp ?_ | refine ex ?_ | (refine gs (fun hb => ?_) (fun hb => ?_) <;> replace hb := nb hb <;> try exact noB hb) | (refine cd (fun hb => ?_) (fun hb => ?_) <;> replace hb := nb hb <;> try exact noB hb) | (with_reducible refine Exists.intro _ (And.intro rfl ?_)) | ((with_reducible refine And.intro ?_ ?_); (focus exact sdA)) | fail)
  all_goals (refine rt ?_; refine fin ?_; refine Wk.bool ?_)
  · rw [Bool.eq_iff_iff, decide_eq_true_eq, decide_eq_true_eq]
    exact ⟨fun h => ⟨hb, h⟩, fun h => h.2⟩
  · rw [Bool.eq_iff_iff, decide_eq_true_eq]
    exact ⟨fun h => (by cases h), fun h => absurd h.1 hb⟩
theorem xtexts_fn (l : List (List UInt8)) : Fn Try.prog 84 [texts l] [] (bool (textsOK l)) [] := by
  refine en Try.func84 (hfr := by (simp only [Try.ntmps84, go_sem, Nat.reduceSub, Nat.reduceAdd]; rfl)) ?_
  refine W.le (s := 0) rfl fun hm => ?_
  rw [List.length_map] at hm
  repeat' (first | exact absurd hb Bool.false_ne_true | exact absurd hb.symm Bool.false_ne_true | refine W.seq ?_ | refine W.block ?_ | (refine rgx [2] [] ?_; intro K hK) | (refine drx [2] [] ?_; intro K hK) | refine oq ?_ | refine sk ?_ | (refine nk hK ?_; clear hK K) | (refine nd hK ?_; clear hK K) | refine sp ?_ | refine ex ?_ | (refine gs (fun hb => ?_) (fun hb => ?_) <;> replace hb := nb hb <;> try exact noB hb) | (refine cd (fun hb => ?_) (fun hb => ?_) <;> replace hb := nb hb <;> try exact noB hb) | (with_reducible refine Exists.intro _ (And.intro rfl ?_)) | ((with_reducible refine And.intro ?_ ?_); (focus exact sdA)) | fail)
  refine W.lp (ι := Nat) (fun i => (texts l :: ay 2 (i64 i :: ay 15 []))) (fun _ => []) (fun i => i ≤ l.length ∧ (l.take i).all (fun b => decide (b.length ≤ 100)) = true) (fun i => l.length - i) 0 ⟨Nat.zero_le _, rfl⟩ (Ent.to ?_ rfl) ?_
  · skip
    exact wkA
  · rintro i ⟨hi, ha⟩
    repeat' (first | exact absurd hb Bool.false_ne_true | exact absurd hb.symm Bool.false_ne_true | refine W.seq ?_ | refine W.block ?_ | (refine rg [] ?_; intro K hK) | (refine dr [] ?_; intro K hK) | refine oq ?_ | refine sk ?_ | (refine nk hK ?_; clear hK K) | (refine nd hK ?_; clear hK K) | refine sp ?_ | refine ex ?_ | (refine gs (fun hb => ?_) (fun hb => ?_) <;> replace hb := nb hb <;> try exact noB hb) | (refine cd (fun hb => ?_) (fun hb => ?_) <;> replace hb := nb hb <;> try exact noB hb) | (with_reducible refine Exists.intro _ (And.intro rfl ?_)) | ((with_reducible refine And.intro ?_ ?_); (focus exact sdA)) | fail)
    · have hx := gdS (l := l) (i := i) (by omega) []
      rw [show textsOK l = false by unfold textsOK; rw [allF hx (by simp only [decide_eq_false_iff_not]; omega)]; rfl]
      all_goals (refine rt ?_; refine fin ?_; exact wqA)
    · have hx := gdS (l := l) (i := i) (by omega) []
      refine nx (i + 1) ⟨by omega, allT ha hx (by simp only [decide_eq_true_eq]; omega)⟩ (by omega) (Ent.to ?_ rfl)
      exact wkA
    · rw [List.take_of_length_le (by omega)] at ha
      refine rt ?_
      refine fin ?_
      refine Wk.bool ?_
      unfold textsOK
      rw [ha, Bool.true_and, Bool.eq_iff_iff]
      simp only [decide_eq_true_eq]
      omega
set_option maxHeartbeats 4000000 in
theorem xmay_fn (r : RecS) : Fn Try.prog 25 [r.v] [] (bool (decide r.may)) [] := by
  have cT := xtexts_fn r.vars
  refine en Try.func25 (hfr := by (simp only [Try.ntmps25, go_sem, Nat.reduceSub, Nat.reduceAdd]; rfl)) ?_
  repeat' (first | exact absurd hb Bool.false_ne_true | exact absurd hb.symm Bool.false_ne_true | refine W.seq ?_ | refine W.block ?_ | (refine rgx [1] [] ?_; intro K hK) | (refine drx [1] [] ?_; intro K hK) | refine oq ?_ | refine sk ?_ | (refine nk hK ?_; clear hK K) | (refine nd hK ?_; clear hK K) | refine sp ?_ | refine ex ?_ | (refine gs (fun hb => ?_) (fun hb => ?_) <;> replace hb := nb hb <;> try exact noB hb) | (refine cd (fun hb => ?_) (fun hb => ?_) <;> replace hb := nb hb <;> try exact noB hb) | (with_reducible refine Exists.intro _ (And.intro rfl ?_)) | ((with_reducible refine And.intro ?_ ?_); (focus exact sdA)) | fail)
  refine W.jn ((ay 1 (.ptr 0 0 :: bool false :: bool (decide r.noPoint) :: ay 167 []))) [.cells 48 r.cells] ?_ ?_
  · skip
    repeat' (first | exact absurd hb Bool.false_ne_true | exact absurd hb.symm Bool.false_ne_true | refine W.seq ?_ | refine W.block ?_ | (refine rg [] ?_; intro K hK) | (refine dr [] ?_; intro K hK) | refine oq ?_ | refine sk ?_ | (refine nk hK ?_; clear hK K) | (refine nd hK ?_; clear hK K) | refine sp ?_ | refine ex ?_ | (refine gs (fun hb => ?_) (fun hb => ?_) <;> replace hb := nb hb <;> try exact noB hb) | (refine cd (fun hb => ?_) (fun hb => ?_) <;> replace hb := nb hb <;> try exact noB hb) | (with_reducible refine Exists.intro _ (And.intro rfl ?_)) | ((with_reducible refine And.intro ?_ ?_); (focus exact sdA)) | fail)
    all_goals refine Ent.to ?_ rfl
    all_goals (repeat' (first | exact WkL.nil | refine WkL.cons ?_ ?_ | exact Wk.any | exact Wk.rfl | refine Wk.bool ?_))
    all_goals (rw [Bool.eq_iff_iff]; simp only [beq_iff_eq, decide_eq_true_eq, Bool.false_eq_true, false_iff, true_iff, List.length_map]; simp only [RecS.noPoint, ← List.length_eq_zero_iff]; omega)
  repeat' (first | exact absurd hb Bool.false_ne_true | exact absurd hb.symm Bool.false_ne_true | refine W.seq ?_ | refine W.block ?_ | (refine rgx [2] [] ?_; intro K hK) | (refine drx [2] [] ?_; intro K hK) | refine oq ?_ | refine sk ?_ | (refine nk hK ?_; clear hK K) | (refine nd hK ?_; clear hK K) | refine sp ?_ | refine ex ?_ | (refine gs (fun hb => ?_) (fun hb => ?_) <;> replace hb := nb hb <;> try exact noB hb) | (refine cd (fun hb => ?_) (fun hb => ?_) <;> replace hb := nb hb <;> try exact noB hb) | (with_reducible refine Exists.intro _ (And.intro rfl ?_)) | ((with_reducible refine And.intro ?_ ?_); (focus exact sdA)) | fail)
  refine W.jn ((ay 1 (.ptr 0 0 :: bool false :: bool (decide r.noPoint) :: bool (decide r.noOut) :: ay 166 []))) [.cells 48 r.cells] ?_ ?_
  · skip
    repeat' (first | exact absurd hb Bool.false_ne_true | exact absurd hb.symm Bool.false_ne_true | refine W.seq ?_ | refine W.block ?_ | (refine rg [] ?_; intro K hK) | (refine dr [] ?_; intro K hK) | refine oq ?_ | refine sk ?_ | (refine nk hK ?_; clear hK K) | (refine nd hK ?_; clear hK K) | refine sp ?_ | refine ex ?_ | (refine gs (fun hb => ?_) (fun hb => ?_) <;> replace hb := nb hb <;> try exact noB hb) | (refine cd (fun hb => ?_) (fun hb => ?_) <;> replace hb := nb hb <;> try exact noB hb) | (with_reducible refine Exists.intro _ (And.intro rfl ?_)) | ((with_reducible refine And.intro ?_ ?_); (focus exact sdA)) | fail)
    all_goals refine Ent.to ?_ rfl
    all_goals (repeat' (first | exact WkL.nil | refine WkL.cons ?_ ?_ | exact Wk.any | exact Wk.rfl | refine Wk.bool ?_))
    all_goals (rw [Bool.eq_iff_iff]; simp only [beq_iff_eq, decide_eq_true_eq, Bool.false_eq_true, false_iff, true_iff, List.length_map]; simp only [RecS.noOut, ← List.length_eq_zero_iff]; omega)
  repeat' (first | exact absurd hb Bool.false_ne_true | exact absurd hb.symm Bool.false_ne_true | refine W.seq ?_ | refine W.block ?_ | (refine rgx [3] [] ?_; intro K hK) | (refine drx [3] [] ?_; intro K hK) | refine oq ?_ | refine sk ?_ | (refine nk hK ?_; clear hK K) | (refine nd hK ?_; clear hK K) | refine sp ?_ | refine ex ?_ | (refine gs (fun hb => ?_) (fun hb => ?_) <;> replace hb := nb hb <;> try exact noB hb) | (refine cd (fun hb => ?_) (fun hb => ?_) <;> replace hb := nb hb <;> try exact noB hb) | (with_reducible refine Exists.intro _ (And.intro rfl ?_)) | ((with_reducible refine And.intro ?_ ?_); (focus exact sdA)) | fail)
  refine W.jn ((ay 1 (.ptr 0 0 :: bool false :: bool (decide r.noPoint) :: bool (decide r.noOut) :: bool (decide r.noInt) :: ay 165 []))) [.cells 48 r.cells] ?_ ?_
  · skip
    repeat' (first | exact absurd hb Bool.false_ne_true | exact absurd hb.symm Bool.false_ne_true | refine W.seq ?_ | refine W.block ?_ | (refine rg [] ?_; intro K hK) | (refine dr [] ?_; intro K hK) | refine oq ?_ | refine sk ?_ | (refine nk hK ?_; clear hK K) | (refine nd hK ?_; clear hK K) | refine sp ?_ | refine ex ?_ | (refine gs (fun hb => ?_) (fun hb => ?_) <;> replace hb := nb hb <;> try exact noB hb) | (refine cd (fun hb => ?_) (fun hb => ?_) <;> replace hb := nb hb <;> try exact noB hb) | (with_reducible refine Exists.intro _ (And.intro rfl ?_)) | ((with_reducible refine And.intro ?_ ?_); (focus exact sdA)) | fail)
    all_goals refine Ent.to ?_ rfl
    all_goals (repeat' (first | exact WkL.nil | refine WkL.cons ?_ ?_ | exact Wk.any | exact Wk.rfl | refine Wk.bool ?_))
    all_goals (rw [Bool.eq_iff_iff]; simp only [beq_iff_eq, decide_eq_true_eq, Bool.false_eq_true, false_iff, true_iff, List.length_map]; simp only [RecS.noInt]; omega)
  have hin : ∀ (n a b : Int), decide (inR n a b) = true ↔ a ≤ n ∧ n ≤ b := fun n a b => by rw [decide_eq_true_eq]; rfl
  repeat' (first | exact absurd hb Bool.false_ne_true | exact absurd hb.symm Bool.false_ne_true | refine W.seq ?_ | refine W.block ?_ | (refine rgx [7, 9, 11] [] ?_; intro K hK) | (refine drx [7, 9, 11] [] ?_; intro K hK) | refine cl (cT) ?_ | refine oq ?_ | refine sk ?_ | (refine nk hK ?_; clear hK K) | (refine nd hK ?_; clear hK K) | refine sp ?_ | refine ex ?_ | (refine gs (fun hb => ?_) (fun hb => ?_) <;> replace hb := nb hb <;> try exact noB hb) | (refine cd (fun hb => ?_) (fun hb => ?_) <;> replace hb := nb hb <;> try exact noB hb) | (with_reducible refine Exists.intro _ (And.intro rfl ?_)) | ((with_reducible refine And.intro ?_ ?_); (focus exact sdA)) | fail)
  · skip
    repeat' (first | exact absurd hb Bool.false_ne_true | exact absurd hb.symm Bool.false_ne_true | refine W.seq ?_ | refine W.block ?_ | (refine rg [] ?_; intro K hK) | (refine dr [] ?_; intro K hK) | refine cl (xin_fn r.step (-3) 29) ?_ | refine cl (xin_fn r.visit 1 1001) ?_ | refine cl (xin_fn r.tries 0 6) ?_ | refine cl (xin_fn r.off 0 2147483647) ?_ | refine oq ?_ | refine sk ?_ | (refine nk hK ?_; clear hK K) | (refine nd hK ?_; clear hK K) | refine sp ?_ | refine ex ?_ | (refine gs (fun hb => ?_) (fun hb => ?_) <;> replace hb := nb hb <;> try exact noB hb) | (refine cd (fun hb => ?_) (fun hb => ?_) <;> replace hb := nb hb <;> try exact noB hb) | (with_reducible refine Exists.intro _ (And.intro rfl ?_)) | ((with_reducible refine And.intro ?_ ?_); (focus exact sdA)) | fail)
    all_goals (refine rt ?_; refine fin ?_; refine Wk.bool ?_; rw [Bool.eq_iff_iff]; simp only [decide_eq_true_eq, Bool.false_eq_true]; simp [RecS.may, RecS.may1, *])
  · skip
    repeat' (first | exact absurd hb Bool.false_ne_true | exact absurd hb.symm Bool.false_ne_true | refine W.seq ?_ | refine W.block ?_ | (refine rg [] ?_; intro K hK) | (refine dr [] ?_; intro K hK) | refine cl (xin_fn r.vis 1 1001) ?_ | refine cl (xin_fn r.st 0 29) ?_ | refine cl (xin_fn r.try' 0 5) ?_ | refine oq ?_ | refine sk ?_ | (refine nk hK ?_; clear hK K) | (refine nd hK ?_; clear hK K) | refine sp ?_ | refine ex ?_ | (refine gs (fun hb => ?_) (fun hb => ?_) <;> replace hb := nb hb <;> try exact noB hb) | (refine cd (fun hb => ?_) (fun hb => ?_) <;> replace hb := nb hb <;> try exact noB hb) | (with_reducible refine Exists.intro _ (And.intro rfl ?_)) | ((with_reducible refine And.intro ?_ ?_); (focus exact sdA)) | fail)
    all_goals (refine rt ?_; refine fin ?_; refine Wk.bool ?_; rw [Bool.eq_iff_iff]; simp only [decide_eq_true_eq, Bool.false_eq_true]; simp [RecS.may, RecS.may2, *])
  · skip
    repeat' (first | exact absurd hb Bool.false_ne_true | exact absurd hb.symm Bool.false_ne_true | refine W.seq ?_ | refine W.block ?_ | (refine rg [] ?_; intro K hK) | (refine dr [] ?_; intro K hK) | refine cl (xin_fn r.vis 1 1001) ?_ | refine cl (xin_fn r.to (-3) 29) ?_ | refine cl (xin_fn r.ofs 0 2147483647) ?_ | refine cl (xin_fn r.vr (-1) 7) ?_ | refine oq ?_ | refine sk ?_ | (refine nk hK ?_; clear hK K) | (refine nd hK ?_; clear hK K) | refine sp ?_ | refine ex ?_ | (refine gs (fun hb => ?_) (fun hb => ?_) <;> replace hb := nb hb <;> try exact noB hb) | (refine cd (fun hb => ?_) (fun hb => ?_) <;> replace hb := nb hb <;> try exact noB hb) | (with_reducible refine Exists.intro _ (And.intro rfl ?_)) | ((with_reducible refine And.intro ?_ ?_); (focus exact sdA)) | fail)
    all_goals (refine rt ?_; refine fin ?_; refine Wk.bool ?_; rw [Bool.eq_iff_iff]; simp only [decide_eq_true_eq, Bool.false_eq_true]; simp [RecS.may, RecS.may3, *])
    · intro h
      rw [h]
      decide
    · omega
    · intro h
      omega
  · all_goals (refine rt ?_; refine fin ?_; refine Wk.bool ?_; rw [Bool.eq_iff_iff]; simp only [decide_eq_true_eq, Bool.false_eq_true]; simp [RecS.may, *])
end Go.Proofs.Ytpmbeldmclcjlaa.Vs
