/- records: may one be?; records: may an Intent be?; records: may an Outcome be? And all. -/
import Derived.Test.YtpmbeldmclcjlaaVrD
set_option linter.unusedVariables false
set_option linter.unusedSimpArgs false
namespace Go.Proofs.Ytpmbeldmclcjlaa.Vs
open Go.RowKit
set_option maxRecDepth 100000
theorem big_fn (b : List UInt8) : Fn Try.prog 83 [bytes b] [] (bool (decide (100 < b.length))) [] := by
  refine en Try.func83 (hfr := by (simp only [Try.ntmps83, go_sem, Nat.reduceSub, Nat.reduceAdd]; rfl)) ?_
  repeat' (first | exact absurd hb Bool.false_ne_true | exact absurd hb.symm Bool.false_ne_true | refine W.seq ?_ | refine W.block ?_ | (refine rg [] ?_; intro K hK) | (refine dr [] ?_; intro K hK) | refine oq ?_ | refine sk ?_ | (refine nk hK ?_; clear hK K) | (refine nd hK ?_; clear hK K) | refine sp ?_ | refine ex ?_ | (refine gs (fun hb => ?_) (fun hb => ?_) <;> replace hb := nb hb <;> try exact noB hb) | (refine cd (fun hb => ?_) (fun hb => ?_) <;> replace hb := nb hb <;> try exact noB hb) | (with_reducible refine Exists.intro _ (And.intro rfl ?_)) | ((with_reducible refine And.intro ?_ ?_); (focus exact sdA)) | fail)
  all_goals (refine rt ?_; refine fin ?_; refine Wk.bool ?_; rw [Bool.eq_iff_iff]; simp only [decide_eq_true_eq]; omega)
abbrev bigP (b : List UInt8) : Bool := decide (100 < b.length)
/-- Where the first big one is. -/
def bigAt (l : List (List UInt8)) : Int := if l.findIdx bigP < l.length then (l.findIdx bigP : Int) else -1
theorem index_fn (l : List (List UInt8)) : Fn Try.prog 140 [texts l, .fn (.func 83) [] []] [] (i64 (bigAt l)) [] := by
  refine en Try.func140 (hfr := by (simp only [Try.ntmps140, go_sem, Nat.reduceSub, Nat.reduceAdd]; rfl)) ?_
  refine W.le (s := 0) rfl fun hm => ?_
  rw [List.length_map] at hm
  repeat' (first | exact absurd hb Bool.false_ne_true | exact absurd hb.symm Bool.false_ne_true | refine W.seq ?_ | refine W.block ?_ | (refine rgx [2] [] ?_; intro K hK) | (refine drx [2] [] ?_; intro K hK) | refine oq ?_ | refine sk ?_ | (refine nk hK ?_; clear hK K) | (refine nd hK ?_; clear hK K) | refine sp ?_ | refine ex ?_ | (refine gs (fun hb => ?_) (fun hb => ?_) <;> replace hb := nb hb <;> try exact noB hb) | (refine cd (fun hb => ?_) (fun hb => ?_) <;> replace hb := nb hb <;> try exact noB hb) | (with_reducible refine Exists.intro _ (And.intro rfl ?_)) | ((with_reducible refine And.intro ?_ ?_); (focus exact sdA)) | fail)
  refine W.lp (ι := Nat) (fun i => (texts l :: .fn (.func 83) [] [] :: ay 4 (texts l :: i64 l.length :: i64 i :: ay 10 []))) (fun _ => []) (fun i => i ≤ l.findIdx bigP) (fun i => l.length - i) 0 (Nat.zero_le _) (Ent.to ?_ rfl) ?_
  · skip
    exact wkA
  · intro i ha
    have c := big_fn (l.getD i [])
    have hg : ∀ (h : i < l.length), l[i] = l.getD i [] := fun h => by rw [List.getD_eq_getElem?_getD, List.getElem?_eq_getElem h]; rfl
    have hle := List.findIdx_le_length (xs := l) (p := bigP)
    by_cases hlt : i < l.length
    · have hz := hg hlt
      repeat' (first | exact absurd hb Bool.false_ne_true | exact absurd hb.symm Bool.false_ne_true | refine W.seq ?_ | refine W.block ?_ | (refine rg [] ?_; intro K hK) | (refine dr [] ?_; intro K hK) | refine cl (c) ?_ | refine oq ?_ | refine sk ?_ | (refine nk hK ?_; clear hK K) | (refine nd hK ?_; clear hK K) | refine sp ?_ | refine ex ?_ | (refine gs (fun hb => ?_) (fun hb => ?_) <;> replace hb := nb hb <;> try exact noB hb) | (refine cd (fun hb => ?_) (fun hb => ?_) <;> replace hb := nb hb <;> try exact noB hb) | (with_reducible refine Exists.intro _ (And.intro rfl ?_)) | ((with_reducible refine And.intro ?_ ?_); (focus exact sdA)) | fail)
      · have hi : i = l.findIdx bigP := by
          rcases Nat.lt_or_ge i (l.findIdx bigP) with h | h
          · have := List.not_of_lt_findIdx h
            rw [hz] at this
            simp only [bigP, decide_eq_false_iff_not] at this
            exact absurd hb this
          · omega
        rw [show bigAt l = (i : Int) by unfold bigAt; rw [← hi, if_pos hlt]]
        all_goals (refine rt ?_; refine fin ?_; exact wqA)
      · refine nx (i + 1) ?_ (by omega) (Ent.to ?_ rfl)
        · rcases Nat.lt_or_ge i (l.findIdx bigP) with h | h
          · exact h
          · have hi : i = l.findIdx bigP := by omega
            have := List.findIdx_getElem (xs := l) (p := bigP) (w := by omega)
            simp only [← hi] at this
            rw [hz] at this
            simp only [bigP, decide_eq_true_eq] at this
            exact absurd this hb
        · skip
          exact wkA
    · skip
      repeat' (first | exact absurd hb Bool.false_ne_true | exact absurd hb.symm Bool.false_ne_true | refine W.seq ?_ | refine W.block ?_ | (refine rg [] ?_; intro K hK) | (refine dr [] ?_; intro K hK) | refine oq ?_ | refine sk ?_ | (refine nk hK ?_; clear hK K) | (refine nd hK ?_; clear hK K) | refine sp ?_ | refine ex ?_ | (refine gs (fun hb => ?_) (fun hb => ?_) <;> replace hb := nb hb <;> try exact noB hb) | (refine cd (fun hb => ?_) (fun hb => ?_) <;> replace hb := nb hb <;> try exact noB hb) | (with_reducible refine Exists.intro _ (And.intro rfl ?_)) | ((with_reducible refine And.intro ?_ ?_); (focus exact sdA)) | fail)
      rw [show bigAt l = -1 by unfold bigAt; rw [if_neg (by omega)]]
      all_goals (refine rt ?_; refine fin ?_; exact wqA)
theorem contains_fn (l : List (List UInt8)) : Fn Try.prog 82 [texts l, .fn (.func 83) [] []] [] (bool (!(l.all (fun b => decide (b.length ≤ 100))))) [] := by
  have c := index_fn l
  have hk : (0 ≤ bigAt l) ↔ l.findIdx bigP < l.length := by unfold bigAt; split <;> omega
  have hk2 : l.findIdx bigP < l.length ↔ ∃ x ∈ l, bigP x = true := List.findIdx_lt_length
  refine en Try.func82 (hfr := by (simp only [Try.ntmps82, go_sem, Nat.reduceSub, Nat.reduceAdd]; rfl)) ?_
  repeat' (first | exact absurd hb Bool.false_ne_true | exact absurd hb.symm Bool.false_ne_true | refine W.seq ?_ | refine W.block ?_ | (refine rg [] ?_; intro K hK) | (refine dr [] ?_; intro K hK) | refine cl (c) ?_ | refine oq ?_ | refine sk ?_ | (refine nk hK ?_; clear hK K) | (refine nd hK ?_; clear hK K) | refine sp ?_ | refine ex ?_ | (refine gs (fun hb => ?_) (fun hb => ?_) <;> replace hb := nb hb <;> try exact noB hb) | (refine cd (fun hb => ?_) (fun hb => ?_) <;> replace hb := nb hb <;> try exact noB hb) | (with_reducible refine Exists.intro _ (And.intro rfl ?_)) | ((with_reducible refine And.intro ?_ ?_); (focus exact sdA)) | fail)
  refine rt ?_; refine fin ?_; refine Wk.bool ?_
  rw [Bool.eq_iff_iff]
  simp only [decide_eq_true_eq, Bool.not_eq_true', ge_iff_le]
  rw [hk, hk2, List.all_eq_false]
  simp only [bigP, decide_eq_true_eq, Nat.not_le]
/-- What stands ahead of the numbers. -/
def RecS.head (r : RecS) : Prop := r = r.own ∧ r.vars.length ≤ 8 ∧ r.value.length ≤ 100 ∧ (0 ≤ r.vr ∨ r.value = [])
instance (r : RecS) : Decidable r.head := by unfold RecS.head; exact inferInstance
theorem own_eq1 (r : RecS) (h : r.kind = 1) : r = r.own ↔ r.noOut ∧ r.noInt ∧ r.vis = 0 := by
  obtain ⟨⟩ := r
  simp only at h
  subst h
  simp [RecS.own, RecS.noOut, RecS.noInt]
  constructor
  · rintro ⟨a, b, c, d, e, f, g⟩
    exact ⟨⟨d, e, f, g⟩, ⟨b, c⟩, a⟩
  · rintro ⟨⟨d, e, f, g⟩, ⟨b, c⟩, a⟩
    exact ⟨a, b, c, d, e, f, g⟩
/-- The numbers up to the i-th are within. -/
def RecS.rng1 (r : RecS) (i : Nat) : Prop := (1 ≤ i → inR r.step (-3) 29) ∧ (2 ≤ i → inR r.visit 1 1001) ∧ (3 ≤ i → inR r.tries 0 6) ∧ (4 ≤ i → inR r.off 0 2147483647)
theorem may_iff1 (r : RecS) (h : r.kind = 1) : r.may ↔ r.head ∧ r.rng1 4 ∧ (r.vars.all (fun b => decide (b.length ≤ 100))) = true := by
  have h2 := own_eq1 r h
  unfold RecS.may RecS.may1 RecS.head RecS.rng1 textsOK
  rw [h2]
  simp only [Bool.and_eq_true, decide_eq_true_eq, h]
  constructor
  · rintro (⟨_, a, b, c, d, e, f, g, i⟩ | ⟨j, _⟩ | ⟨j, _⟩)
    · refine ⟨⟨⟨a, b, c⟩, i.2, ?_, .inl ?_⟩, ⟨fun _ => d, fun _ => e, fun _ => f, fun _ => g⟩, i.1⟩
      · rw [a.2.2.2]; decide
      · rw [a.2.2.1]; decide
    · omega
    · omega
  · rintro ⟨⟨⟨a, b, c⟩, i, _⟩, ⟨d, e, f, g⟩, j⟩
    exact .inl ⟨trivial, a, b, c, d (by decide), e (by decide), f (by decide), g (by decide), j, i⟩
set_option maxHeartbeats 4000000 in
theorem may_fn1 (r : RecS) (h : r.kind = 1) : Fn Try.prog 24 [r.v] [] (bool (decide r.may)) [] := by
  have c1 := fields_fn1 r h
  have c2 := own_fn r
  have c3 := same_fn r r.own
  have c4 := contains_fn r.vars
  refine en Try.func24 (hfr := by (simp only [Try.ntmps24, go_sem, Nat.reduceSub, Nat.reduceAdd]; rfl)) ?_
  repeat' (first | exact absurd hb Bool.false_ne_true | exact absurd hb.symm Bool.false_ne_true | refine W.seq ?_ | refine W.block ?_ | (refine rgx [1] [] ?_; intro K hK) | (refine drx [1] [] ?_; intro K hK) | refine oq ?_ | refine sk ?_ | (refine nk hK ?_; clear hK K) | (refine nd hK ?_; clear hK K) | refine sp ?_ | refine ex ?_ | (refine gs (fun hb => ?_) (fun hb => ?_) <;> replace hb := nb hb <;> try exact noB hb) | (refine cd (fun hb => ?_) (fun hb => ?_) <;> replace hb := nb hb <;> try exact noB hb) | (with_reducible refine Exists.intro _ (And.intro rfl ?_)) | ((with_reducible refine And.intro ?_ ?_); (focus exact sdA)) | fail)
  refine W.ent (Ent.more 1) ?_
  repeat' (first | exact absurd hb Bool.false_ne_true | exact absurd hb.symm Bool.false_ne_true | refine W.seq ?_ | refine W.block ?_ | (refine rgx [2] [] ?_; intro K hK) | (refine drx [2] [] ?_; intro K hK) | refine cle [0, 1] 1 (c1) ?_ | refine oq ?_ | refine sk ?_ | (refine nk hK ?_; clear hK K) | (refine nd hK ?_; clear hK K) | refine sp ?_ | refine ex ?_ | (refine gs (fun hb => ?_) (fun hb => ?_) <;> replace hb := nb hb <;> try exact noB hb) | (refine cd (fun hb => ?_) (fun hb => ?_) <;> replace hb := nb hb <;> try exact noB hb) | (with_reducible refine Exists.intro _ (And.intro rfl ?_)) | ((with_reducible refine And.intro ?_ ?_); (focus exact sdA)) | fail)
  refine W.jn ((ay 1 (.ptr 0 0 :: bool false :: .row 1 0 4 4 :: ay 35 (bool (!decide r.head) :: ay 28 [])))) [.cells 35 r.cells, .cells 144 (flds1 0)] ?_ ?_
  · skip
    repeat' (first | exact absurd hb Bool.false_ne_true | exact absurd hb.symm Bool.false_ne_true | refine W.seq ?_ | refine W.block ?_ | (refine rg [] ?_; intro K hK) | (refine dr [] ?_; intro K hK) | refine cl (c2) ?_ | refine cl (c3) ?_ | refine oq ?_ | refine sk ?_ | (refine nk hK ?_; clear hK K) | (refine nd hK ?_; clear hK K) | refine sp ?_ | refine ex ?_ | (refine gs (fun hb => ?_) (fun hb => ?_) <;> replace hb := nb hb <;> try exact noB hb) | (refine cd (fun hb => ?_) (fun hb => ?_) <;> replace hb := nb hb <;> try exact noB hb) | (with_reducible refine Exists.intro _ (And.intro rfl ?_)) | ((with_reducible refine And.intro ?_ ?_); (focus exact sdA)) | fail)
    all_goals refine Ent.to ?_ rfl
    all_goals (repeat' (first | exact WkL.nil | refine WkL.cons ?_ ?_ | exact Wk.any | exact Wk.rfl | refine Wk.bool ?_))
    all_goals (rw [Bool.eq_iff_iff]; simp only [Bool.not_eq_true', decide_eq_false_iff_not, decide_eq_true_eq]; unfold RecS.head; rw [← List.length_eq_zero_iff])
    all_goals (first | (simp only [eq_true ‹r = r.own›, true_and, true_iff, false_iff, Bool.false_eq_true]; omega) | (simp only [eq_false ‹¬ r = r.own›, false_and, not_false_iff]))
  have hm := may_iff1 r h
  repeat' (first | exact absurd hb Bool.false_ne_true | exact absurd hb.symm Bool.false_ne_true | refine W.seq ?_ | refine W.block ?_ | (refine rgx [5] [] ?_; intro K hK) | (refine drx [5] [] ?_; intro K hK) | refine oq ?_ | refine sk ?_ | (refine nk hK ?_; clear hK K) | (refine nd hK ?_; clear hK K) | refine sp ?_ | refine ex ?_ | (refine gs (fun hb => ?_) (fun hb => ?_) <;> replace hb := nb hb <;> try exact noB hb) | (refine cd (fun hb => ?_) (fun hb => ?_) <;> replace hb := nb hb <;> try exact noB hb) | (with_reducible refine Exists.intro _ (And.intro rfl ?_)) | ((with_reducible refine And.intro ?_ ?_); (focus exact sdA)) | fail)
  · rw [decide_eq_false (fun h => hb (hm.1 h).1)]
    all_goals (refine rt ?_; refine fin ?_; exact wqA)
  have hh : r.head := ‹_›
  clear hb
  refine W.lp (ι := Nat) (fun i => (ay 1 (.ptr 0 0 :: bool false :: ay 37 (.row 1 0 4 4 :: i64 4 :: i64 i :: ay 25 [])))) (fun _ => [.cells 35 r.cells, .cells 144 (flds1 0)]) (fun i => i ≤ 4 ∧ r.rng1 i) (fun i => 4 - i) 0 ⟨by decide, by unfold RecS.rng1; simp⟩ (Ent.to ?_ rfl) ?_
  · skip
    exact wkA
  · rintro i ⟨hi, hr⟩
    obtain rfl | rfl | rfl | rfl | rfl : i = 0 ∨ i = 1 ∨ i = 2 ∨ i = 3 ∨ i = 4 := by omega
    · skip
      repeat' (first | exact absurd hb Bool.false_ne_true | exact absurd hb.symm Bool.false_ne_true | refine W.seq ?_ | refine W.block ?_ | (refine rg [] ?_; intro K hK) | (refine dr [] ?_; intro K hK) | refine oq ?_ | refine sk ?_ | (refine nk hK ?_; clear hK K) | (refine nd hK ?_; clear hK K) | refine sp ?_ | refine ex ?_ | (refine gs (fun hb => ?_) (fun hb => ?_) <;> replace hb := nb hb <;> try exact noB hb) | (refine cd (fun hb => ?_) (fun hb => ?_) <;> replace hb := nb hb <;> try exact noB hb) | (with_reducible refine Exists.intro _ (And.intro rfl ?_)) | ((with_reducible refine And.intro ?_ ?_); (focus exact sdA)) | fail)
      · rw [decide_eq_false (p := r.may) (fun h => by have h5 := (hm.1 h).2.1; unfold RecS.rng1 inR at h5; simp only [Nat.reduceLeDiff, true_implies, forall_const] at h5; omega)]
        all_goals (refine rt ?_; refine fin ?_; exact wqA)
      · refine nx 1 ⟨by decide, ?_⟩ (by decide) (sb [0, 1] _ _ (hf := ?_))
        · unfold RecS.rng1 inR at hr ⊢
          simp only [Nat.reduceLeDiff, true_implies, forall_const, false_implies, true_and, and_true] at hr ⊢
          omega
        · skip
          exact wkA
      · rw [decide_eq_false (p := r.may) (fun h => by have h5 := (hm.1 h).2.1; unfold RecS.rng1 inR at h5; simp only [Nat.reduceLeDiff, true_implies, forall_const] at h5; omega)]
        all_goals (refine rt ?_; refine fin ?_; exact wqA)
    · skip
      repeat' (first | exact absurd hb Bool.false_ne_true | exact absurd hb.symm Bool.false_ne_true | refine W.seq ?_ | refine W.block ?_ | (refine rg [] ?_; intro K hK) | (refine dr [] ?_; intro K hK) | refine oq ?_ | refine sk ?_ | (refine nk hK ?_; clear hK K) | (refine nd hK ?_; clear hK K) | refine sp ?_ | refine ex ?_ | (refine gs (fun hb => ?_) (fun hb => ?_) <;> replace hb := nb hb <;> try exact noB hb) | (refine cd (fun hb => ?_) (fun hb => ?_) <;> replace hb := nb hb <;> try exact noB hb) | (with_reducible refine Exists.intro _ (And.intro rfl ?_)) | ((with_reducible refine And.intro ?_ ?_); (focus exact sdA)) | fail)
      · rw [decide_eq_false (p := r.may) (fun h => by have h5 := (hm.1 h).2.1; unfold RecS.rng1 inR at h5; simp only [Nat.reduceLeDiff, true_implies, forall_const] at h5; omega)]
        all_goals (refine rt ?_; refine fin ?_; exact wqA)
      · refine nx 2 ⟨by decide, ?_⟩ (by decide) (sb [0, 1] _ _ (hf := ?_))
        · unfold RecS.rng1 inR at hr ⊢
          simp only [Nat.reduceLeDiff, true_implies, forall_const, false_implies, true_and, and_true] at hr ⊢
          omega
        · skip
          exact wkA
      · rw [decide_eq_false (p := r.may) (fun h => by have h5 := (hm.1 h).2.1; unfold RecS.rng1 inR at h5; simp only [Nat.reduceLeDiff, true_implies, forall_const] at h5; omega)]
        all_goals (refine rt ?_; refine fin ?_; exact wqA)
    · skip
      repeat' (first | exact absurd hb Bool.false_ne_true | exact absurd hb.symm Bool.false_ne_true | refine W.seq ?_ | refine W.block ?_ | (refine rg [] ?_; intro K hK) | (refine dr [] ?_; intro K hK) | refine oq ?_ | refine sk ?_ | (refine nk hK ?_; clear hK K) | (refine nd hK ?_; clear hK K) | refine sp ?_ | refine ex ?_ | (refine gs (fun hb => ?_) (fun hb => ?_) <;> replace hb := nb hb <;> try exact noB hb) | (refine cd (fun hb => ?_) (fun hb => ?_) <;> replace hb := nb hb <;> try exact noB hb) | (with_reducible refine Exists.intro _ (And.intro rfl ?_)) | ((with_reducible refine And.intro ?_ ?_); (focus exact sdA)) | fail)
      · rw [decide_eq_false (p := r.may) (fun h => by have h5 := (hm.1 h).2.1; unfold RecS.rng1 inR at h5; simp only [Nat.reduceLeDiff, true_implies, forall_const] at h5; omega)]
        all_goals (refine rt ?_; refine fin ?_; exact wqA)
      · refine nx 3 ⟨by decide, ?_⟩ (by decide) (sb [0, 1] _ _ (hf := ?_))
        · unfold RecS.rng1 inR at hr ⊢
          simp only [Nat.reduceLeDiff, true_implies, forall_const, false_implies, true_and, and_true] at hr ⊢
          omega
        · skip
          exact wkA
      · rw [decide_eq_false (p := r.may) (fun h => by have h5 := (hm.1 h).2.1; unfold RecS.rng1 inR at h5; simp only [Nat.reduceLeDiff, true_implies, forall_const] at h5; omega)]
        all_goals (refine rt ?_; refine fin ?_; exact wqA)
    · skip
      repeat' (first | exact absurd hb Bool.false_ne_true | exact absurd hb.symm Bool.false_ne_true | refine W.seq ?_ | refine W.block ?_ | (refine rg [] ?_; intro K hK) | (refine dr [] ?_; intro K hK) | refine oq ?_ | refine sk ?_ | (refine nk hK ?_; clear hK K) | (refine nd hK ?_; clear hK K) | refine sp ?_ | refine ex ?_ | (refine gs (fun hb => ?_) (fun hb => ?_) <;> replace hb := nb hb <;> try exact noB hb) | (refine cd (fun hb => ?_) (fun hb => ?_) <;> replace hb := nb hb <;> try exact noB hb) | (with_reducible refine Exists.intro _ (And.intro rfl ?_)) | ((with_reducible refine And.intro ?_ ?_); (focus exact sdA)) | fail)
      · rw [decide_eq_false (p := r.may) (fun h => by have h5 := (hm.1 h).2.1; unfold RecS.rng1 inR at h5; simp only [Nat.reduceLeDiff, true_implies, forall_const] at h5; omega)]
        all_goals (refine rt ?_; refine fin ?_; exact wqA)
      · refine nx 4 ⟨by decide, ?_⟩ (by decide) (sb [0, 1] _ _ (hf := ?_))
        · unfold RecS.rng1 inR at hr ⊢
          simp only [Nat.reduceLeDiff, true_implies, forall_const, false_implies, true_and, and_true] at hr ⊢
          omega
        · skip
          exact wkA
      · rw [decide_eq_false (p := r.may) (fun h => by have h5 := (hm.1 h).2.1; unfold RecS.rng1 inR at h5; simp only [Nat.reduceLeDiff, true_implies, forall_const] at h5; omega)]
        all_goals (refine rt ?_; refine fin ?_; exact wqA)
    · skip
      repeat' (first | exact absurd hb Bool.false_ne_true | exact absurd hb.symm Bool.false_ne_true | refine W.seq ?_ | refine W.block ?_ | (refine rg [] ?_; intro K hK) | (refine dr [] ?_; intro K hK) | refine cl (c4) ?_ | refine oq ?_ | refine sk ?_ | (refine nk hK ?_; clear hK K) | (refine nd hK ?_; clear hK K) | refine sp ?_ | refine ex ?_ | (refine gs (fun hb => ?_) (fun hb => ?_) <;> replace hb := nb hb <;> try exact noB hb) | (refine cd (fun hb => ?_) (fun hb => ?_) <;> replace hb := nb hb <;> try exact noB hb) | (with_reducible refine Exists.intro _ (And.intro rfl ?_)) | ((with_reducible refine And.intro ?_ ?_); (focus exact sdA)) | fail)
      rw [show decide r.may = r.vars.all (fun b => decide (b.length ≤ 100)) by rw [Bool.eq_iff_iff, decide_eq_true_eq, hm]; exact ⟨fun h => h.2.2, fun h => ⟨hh, hr, h⟩⟩, Bool.not_not]
      all_goals (refine rt ?_; refine fin ?_; exact wqA)
theorem own_eq2 (r : RecS) (h : r.kind = 2) : r = r.own ↔ r.noPoint ∧ r.noOut := by
  obtain ⟨⟩ := r
  simp only at h
  subst h
  simp [RecS.own, RecS.noOut, RecS.noPoint]
  constructor
  · rintro ⟨a, b, c, d, e, f, g, i, j⟩
    exact ⟨⟨a, b, c, d, e⟩, f, g, i, j⟩
  · rintro ⟨⟨a, b, c, d, e⟩, f, g, i, j⟩
    exact ⟨a, b, c, d, e, f, g, i, j⟩
/-- The numbers up to the i-th are within. -/
def RecS.rng2 (r : RecS) (i : Nat) : Prop := (1 ≤ i → inR r.vis 1 1001) ∧ (2 ≤ i → inR r.st 0 29) ∧ (3 ≤ i → inR r.try' 0 5)
theorem may_iff2 (r : RecS) (h : r.kind = 2) : r.may ↔ r.head ∧ r.rng2 3 ∧ (r.vars.all (fun b => decide (b.length ≤ 100))) = true := by
  have h2 := own_eq2 r h
  unfold RecS.may RecS.may2 RecS.head RecS.rng2
  rw [h2]
  simp only [h]
  constructor
  · rintro (⟨j, _⟩ | ⟨_, a, b, d, e, f⟩ | ⟨j, _⟩)
    · omega
    · refine ⟨⟨⟨a, b⟩, ?_, ?_, .inl ?_⟩, ⟨fun _ => d, fun _ => e, fun _ => f⟩, ?_⟩
      · rw [a.2.2.2.2]; decide
      · rw [b.2.2.2]; decide
      · rw [b.2.2.1]; decide
      · rw [a.2.2.2.2]; rfl
    · omega
  · rintro ⟨⟨⟨a, b⟩, _⟩, ⟨d, e, f⟩, _⟩
    exact .inr (.inl ⟨trivial, a, b, d (by decide), e (by decide), f (by decide)⟩)
set_option maxHeartbeats 4000000 in
theorem may_fn2 (r : RecS) (h : r.kind = 2) : Fn Try.prog 24 [r.v] [] (bool (decide r.may)) [] := by
  have c1 := fields_fn2 r h
  have c2 := own_fn r
  have c3 := same_fn r r.own
  have c4 := contains_fn r.vars
  refine en Try.func24 (hfr := by (simp only [Try.ntmps24, go_sem, Nat.reduceSub, Nat.reduceAdd]; rfl)) ?_
  repeat' (first | exact absurd hb Bool.false_ne_true | exact absurd hb.symm Bool.false_ne_true | refine W.seq ?_ | refine W.block ?_ | (refine rgx [1] [] ?_; intro K hK) | (refine drx [1] [] ?_; intro K hK) | refine oq ?_ | refine sk ?_ | (refine nk hK ?_; clear hK K) | (refine nd hK ?_; clear hK K) | refine sp ?_ | refine ex ?_ | (refine gs (fun hb => ?_) (fun hb => ?_) <;> replace hb := nb hb <;> try exact noB hb) | (refine cd (fun hb => ?_) (fun hb => ?_) <;> replace hb := nb hb <;> try exact noB hb) | (with_reducible refine Exists.intro _ (And.intro rfl ?_)) | ((with_reducible refine And.intro ?_ ?_); (focus exact sdA)) | fail)
  refine W.ent (Ent.more 1) ?_
  repeat' (first | exact absurd hb Bool.false_ne_true | exact absurd hb.symm Bool.false_ne_true | refine W.seq ?_ | refine W.block ?_ | (refine rgx [2] [] ?_; intro K hK) | (refine drx [2] [] ?_; intro K hK) | refine cle [0, 1] 1 (c1) ?_ | refine oq ?_ | refine sk ?_ | (refine nk hK ?_; clear hK K) | (refine nd hK ?_; clear hK K) | refine sp ?_ | refine ex ?_ | (refine gs (fun hb => ?_) (fun hb => ?_) <;> replace hb := nb hb <;> try exact noB hb) | (refine cd (fun hb => ?_) (fun hb => ?_) <;> replace hb := nb hb <;> try exact noB hb) | (with_reducible refine Exists.intro _ (And.intro rfl ?_)) | ((with_reducible refine And.intro ?_ ?_); (focus exact sdA)) | fail)
  refine W.jn ((ay 1 (.ptr 0 0 :: bool false :: .row 1 0 3 3 :: ay 35 (bool (!decide r.head) :: ay 28 [])))) [.cells 35 r.cells, .cells 144 (flds2 0)] ?_ ?_
  · skip
    repeat' (first | exact absurd hb Bool.false_ne_true | exact absurd hb.symm Bool.false_ne_true | refine W.seq ?_ | refine W.block ?_ | (refine rg [] ?_; intro K hK) | (refine dr [] ?_; intro K hK) | refine cl (c2) ?_ | refine cl (c3) ?_ | refine oq ?_ | refine sk ?_ | (refine nk hK ?_; clear hK K) | (refine nd hK ?_; clear hK K) | refine sp ?_ | refine ex ?_ | (refine gs (fun hb => ?_) (fun hb => ?_) <;> replace hb := nb hb <;> try exact noB hb) | (refine cd (fun hb => ?_) (fun hb => ?_) <;> replace hb := nb hb <;> try exact noB hb) | (with_reducible refine Exists.intro _ (And.intro rfl ?_)) | ((with_reducible refine And.intro ?_ ?_); (focus exact sdA)) | fail)
    all_goals refine Ent.to ?_ rfl
    all_goals (repeat' (first | exact WkL.nil | refine WkL.cons ?_ ?_ | exact Wk.any | exact Wk.rfl | refine Wk.bool ?_))
    all_goals (rw [Bool.eq_iff_iff]; simp only [Bool.not_eq_true', decide_eq_false_iff_not, decide_eq_true_eq]; unfold RecS.head; rw [← List.length_eq_zero_iff])
    all_goals (first | (simp only [eq_true ‹r = r.own›, true_and, true_iff, false_iff, Bool.false_eq_true]; omega) | (simp only [eq_false ‹¬ r = r.own›, false_and, not_false_iff]))
  have hm := may_iff2 r h
  repeat' (first | exact absurd hb Bool.false_ne_true | exact absurd hb.symm Bool.false_ne_true | refine W.seq ?_ | refine W.block ?_ | (refine rgx [5] [] ?_; intro K hK) | (refine drx [5] [] ?_; intro K hK) | refine oq ?_ | refine sk ?_ | (refine nk hK ?_; clear hK K) | (refine nd hK ?_; clear hK K) | refine sp ?_ | refine ex ?_ | (refine gs (fun hb => ?_) (fun hb => ?_) <;> replace hb := nb hb <;> try exact noB hb) | (refine cd (fun hb => ?_) (fun hb => ?_) <;> replace hb := nb hb <;> try exact noB hb) | (with_reducible refine Exists.intro _ (And.intro rfl ?_)) | ((with_reducible refine And.intro ?_ ?_); (focus exact sdA)) | fail)
  · rw [decide_eq_false (fun h => hb (hm.1 h).1)]
    all_goals (refine rt ?_; refine fin ?_; exact wqA)
  have hh : r.head := ‹_›
  clear hb
  refine W.lp (ι := Nat) (fun i => (ay 1 (.ptr 0 0 :: bool false :: ay 37 (.row 1 0 3 3 :: i64 3 :: i64 i :: ay 25 [])))) (fun _ => [.cells 35 r.cells, .cells 144 (flds2 0)]) (fun i => i ≤ 3 ∧ r.rng2 i) (fun i => 3 - i) 0 ⟨by decide, by unfold RecS.rng2; simp⟩ (Ent.to ?_ rfl) ?_
  · skip
    exact wkA
  · rintro i ⟨hi, hr⟩
    obtain rfl | rfl | rfl | rfl : i = 0 ∨ i = 1 ∨ i = 2 ∨ i = 3 := by omega
    · skip
      repeat' (first | exact absurd hb Bool.false_ne_true | exact absurd hb.symm Bool.false_ne_true | refine W.seq ?_ | refine W.block ?_ | (refine rg [] ?_; intro K hK) | (refine dr [] ?_; intro K hK) | refine oq ?_ | refine sk ?_ | (refine nk hK ?_; clear hK K) | (refine nd hK ?_; clear hK K) | refine sp ?_ | refine ex ?_ | (refine gs (fun hb => ?_) (fun hb => ?_) <;> replace hb := nb hb <;> try exact noB hb) | (refine cd (fun hb => ?_) (fun hb => ?_) <;> replace hb := nb hb <;> try exact noB hb) | (with_reducible refine Exists.intro _ (And.intro rfl ?_)) | ((with_reducible refine And.intro ?_ ?_); (focus exact sdA)) | fail)
      · rw [decide_eq_false (p := r.may) (fun h => by have h5 := (hm.1 h).2.1; unfold RecS.rng2 inR at h5; simp only [Nat.reduceLeDiff, true_implies, forall_const] at h5; omega)]
        all_goals (refine rt ?_; refine fin ?_; exact wqA)
      · refine nx 1 ⟨by decide, ?_⟩ (by decide) (sb [0, 1] _ _ (hf := ?_))
        · unfold RecS.rng2 inR at hr ⊢
          simp only [Nat.reduceLeDiff, true_implies, forall_const, false_implies, true_and, and_true] at hr ⊢
          omega
        · skip
          exact wkA
      · rw [decide_eq_false (p := r.may) (fun h => by have h5 := (hm.1 h).2.1; unfold RecS.rng2 inR at h5; simp only [Nat.reduceLeDiff, true_implies, forall_const] at h5; omega)]
        all_goals (refine rt ?_; refine fin ?_; exact wqA)
    · skip
      repeat' (first | exact absurd hb Bool.false_ne_true | exact absurd hb.symm Bool.false_ne_true | refine W.seq ?_ | refine W.block ?_ | (refine rg [] ?_; intro K hK) | (refine dr [] ?_; intro K hK) | refine oq ?_ | refine sk ?_ | (refine nk hK ?_; clear hK K) | (refine nd hK ?_; clear hK K) | refine sp ?_ | refine ex ?_ | (refine gs (fun hb => ?_) (fun hb => ?_) <;> replace hb := nb hb <;> try exact noB hb) | (refine cd (fun hb => ?_) (fun hb => ?_) <;> replace hb := nb hb <;> try exact noB hb) | (with_reducible refine Exists.intro _ (And.intro rfl ?_)) | ((with_reducible refine And.intro ?_ ?_); (focus exact sdA)) | fail)
      · rw [decide_eq_false (p := r.may) (fun h => by have h5 := (hm.1 h).2.1; unfold RecS.rng2 inR at h5; simp only [Nat.reduceLeDiff, true_implies, forall_const] at h5; omega)]
        all_goals (refine rt ?_; refine fin ?_; exact wqA)
      · refine nx 2 ⟨by decide, ?_⟩ (by decide) (sb [0, 1] _ _ (hf := ?_))
        · unfold RecS.rng2 inR at hr ⊢
          simp only [Nat.reduceLeDiff, true_implies, forall_const, false_implies, true_and, and_true] at hr ⊢
          omega
        · skip
          exact wkA
      · rw [decide_eq_false (p := r.may) (fun h => by have h5 := (hm.1 h).2.1; unfold RecS.rng2 inR at h5; simp only [Nat.reduceLeDiff, true_implies, forall_const] at h5; omega)]
        all_goals (refine rt ?_; refine fin ?_; exact wqA)
    · skip
      repeat' (first | exact absurd hb Bool.false_ne_true | exact absurd hb.symm Bool.false_ne_true | refine W.seq ?_ | refine W.block ?_ | (refine rg [] ?_; intro K hK) | (refine dr [] ?_; intro K hK) | refine oq ?_ | refine sk ?_ | (refine nk hK ?_; clear hK K) | (refine nd hK ?_; clear hK K) | refine sp ?_ | refine ex ?_ | (refine gs (fun hb => ?_) (fun hb => ?_) <;> replace hb := nb hb <;> try exact noB hb) | (refine cd (fun hb => ?_) (fun hb => ?_) <;> replace hb := nb hb <;> try exact noB hb) | (with_reducible refine Exists.intro _ (And.intro rfl ?_)) | ((with_reducible refine And.intro ?_ ?_); (focus exact sdA)) | fail)
      · rw [decide_eq_false (p := r.may) (fun h => by have h5 := (hm.1 h).2.1; unfold RecS.rng2 inR at h5; simp only [Nat.reduceLeDiff, true_implies, forall_const] at h5; omega)]
        all_goals (refine rt ?_; refine fin ?_; exact wqA)
      · refine nx 3 ⟨by decide, ?_⟩ (by decide) (sb [0, 1] _ _ (hf := ?_))
        · unfold RecS.rng2 inR at hr ⊢
          simp only [Nat.reduceLeDiff, true_implies, forall_const, false_implies, true_and, and_true] at hr ⊢
          omega
        · skip
          exact wkA
      · rw [decide_eq_false (p := r.may) (fun h => by have h5 := (hm.1 h).2.1; unfold RecS.rng2 inR at h5; simp only [Nat.reduceLeDiff, true_implies, forall_const] at h5; omega)]
        all_goals (refine rt ?_; refine fin ?_; exact wqA)
    · skip
      repeat' (first | exact absurd hb Bool.false_ne_true | exact absurd hb.symm Bool.false_ne_true | refine W.seq ?_ | refine W.block ?_ | (refine rg [] ?_; intro K hK) | (refine dr [] ?_; intro K hK) | refine cl (c4) ?_ | refine oq ?_ | refine sk ?_ | (refine nk hK ?_; clear hK K) | (refine nd hK ?_; clear hK K) | refine sp ?_ | refine ex ?_ | (refine gs (fun hb => ?_) (fun hb => ?_) <;> replace hb := nb hb <;> try exact noB hb) | (refine cd (fun hb => ?_) (fun hb => ?_) <;> replace hb := nb hb <;> try exact noB hb) | (with_reducible refine Exists.intro _ (And.intro rfl ?_)) | ((with_reducible refine And.intro ?_ ?_); (focus exact sdA)) | fail)
      rw [show decide r.may = r.vars.all (fun b => decide (b.length ≤ 100)) by rw [Bool.eq_iff_iff, decide_eq_true_eq, hm]; exact ⟨fun h => h.2.2, fun h => ⟨hh, hr, h⟩⟩, Bool.not_not]
      all_goals (refine rt ?_; refine fin ?_; exact wqA)
theorem own_eq3 (r : RecS) (h : r.kind = 3) : r = r.own ↔ r.noPoint ∧ r.noInt := by
  obtain ⟨⟩ := r
  simp only at h
  subst h
  simp [RecS.own, RecS.noInt, RecS.noPoint]
  constructor
  · rintro ⟨a, b, c, d, e, f, g⟩
    exact ⟨⟨a, b, c, d, e⟩, f, g⟩
  · rintro ⟨⟨a, b, c, d, e⟩, f, g⟩
    exact ⟨a, b, c, d, e, f, g⟩
/-- The numbers up to the i-th are within. -/
def RecS.rng3 (r : RecS) (i : Nat) : Prop := (1 ≤ i → inR r.vis 1 1001) ∧ (2 ≤ i → inR r.to (-3) 29) ∧ (3 ≤ i → inR r.ofs 0 2147483647) ∧ (4 ≤ i → inR r.vr (-1) 7)
theorem may_iff3 (r : RecS) (h : r.kind = 3) : r.may ↔ r.head ∧ r.rng3 4 ∧ (r.vars.all (fun b => decide (b.length ≤ 100))) = true := by
  have h2 := own_eq3 r h
  unfold RecS.may RecS.may3 RecS.head RecS.rng3
  rw [h2]
  simp only [h]
  constructor
  · rintro (⟨j, _⟩ | ⟨j, _⟩ | ⟨_, a, b, c, d, e, f, g, i⟩)
    · omega
    · omega
    · refine ⟨⟨⟨a, b⟩, ?_, g, i⟩, ⟨fun _ => c, fun _ => d, fun _ => e, fun _ => f⟩, ?_⟩
      · rw [a.2.2.2.2]; decide
      · rw [a.2.2.2.2]; rfl
  · rintro ⟨⟨⟨a, b⟩, _, g, i⟩, ⟨c, d, e, f⟩, _⟩
    exact .inr (.inr ⟨trivial, a, b, c (by decide), d (by decide), e (by decide), f (by decide), g, i⟩)
set_option maxHeartbeats 4000000 in
theorem may_fn3 (r : RecS) (h : r.kind = 3) : Fn Try.prog 24 [r.v] [] (bool (decide r.may)) [] := by
  have c1 := fields_fn3 r h
  have c2 := own_fn r
  have c3 := same_fn r r.own
  have c4 := contains_fn r.vars
  refine en Try.func24 (hfr := by (simp only [Try.ntmps24, go_sem, Nat.reduceSub, Nat.reduceAdd]; rfl)) ?_
  repeat' (first | exact absurd hb Bool.false_ne_true | exact absurd hb.symm Bool.false_ne_true | refine W.seq ?_ | refine W.block ?_ | (refine rgx [1] [] ?_; intro K hK) | (refine drx [1] [] ?_; intro K hK) | refine oq ?_ | refine sk ?_ | (refine nk hK ?_; clear hK K) | (refine nd hK ?_; clear hK K) | refine sp ?_ | refine ex ?_ | (refine gs (fun hb => ?_) (fun hb => ?_) <;> replace hb := nb hb <;> try exact noB hb) | (refine cd (fun hb => ?_) (fun hb => ?_) <;> replace hb := nb hb <;> try exact noB hb) | (with_reducible refine Exists.intro _ (And.intro rfl ?_)) | ((with_reducible refine And.intro ?_ ?_); (focus exact sdA)) | fail)
  refine W.ent (Ent.more 1) ?_
  repeat' (first | exact absurd hb Bool.false_ne_true | exact absurd hb.symm Bool.false_ne_true | refine W.seq ?_ | refine W.block ?_ | (refine rgx [2] [] ?_; intro K hK) | (refine drx [2] [] ?_; intro K hK) | refine cle [0, 1] 1 (c1) ?_ | refine oq ?_ | refine sk ?_ | (refine nk hK ?_; clear hK K) | (refine nd hK ?_; clear hK K) | refine sp ?_ | refine ex ?_ | (refine gs (fun hb => ?_) (fun hb => ?_) <;> replace hb := nb hb <;> try exact noB hb) | (refine cd (fun hb => ?_) (fun hb => ?_) <;> replace hb := nb hb <;> try exact noB hb) | (with_reducible refine Exists.intro _ (And.intro rfl ?_)) | ((with_reducible refine And.intro ?_ ?_); (focus exact sdA)) | fail)
  refine W.jn ((ay 1 (.ptr 0 0 :: bool false :: .row 1 0 4 4 :: ay 35 (bool (!decide r.head) :: ay 28 [])))) [.cells 35 r.cells, .cells 144 (flds3 0)] ?_ ?_
  · skip
    repeat' (first | exact absurd hb Bool.false_ne_true | exact absurd hb.symm Bool.false_ne_true | refine W.seq ?_ | refine W.block ?_ | (refine rg [] ?_; intro K hK) | (refine dr [] ?_; intro K hK) | refine cl (c2) ?_ | refine cl (c3) ?_ | refine oq ?_ | refine sk ?_ | (refine nk hK ?_; clear hK K) | (refine nd hK ?_; clear hK K) | refine sp ?_ | refine ex ?_ | (refine gs (fun hb => ?_) (fun hb => ?_) <;> replace hb := nb hb <;> try exact noB hb) | (refine cd (fun hb => ?_) (fun hb => ?_) <;> replace hb := nb hb <;> try exact noB hb) | (with_reducible refine Exists.intro _ (And.intro rfl ?_)) | ((with_reducible refine And.intro ?_ ?_); (focus exact sdA)) | fail)
    all_goals refine Ent.to ?_ rfl
    all_goals (repeat' (first | exact WkL.nil | refine WkL.cons ?_ ?_ | exact Wk.any | exact Wk.rfl | refine Wk.bool ?_))
    all_goals (rw [Bool.eq_iff_iff]; simp only [Bool.not_eq_true', decide_eq_false_iff_not, decide_eq_true_eq]; unfold RecS.head; rw [← List.length_eq_zero_iff])
    all_goals (first | (simp only [eq_true ‹r = r.own›, true_and, true_iff, false_iff, Bool.false_eq_true]; omega) | (simp only [eq_false ‹¬ r = r.own›, false_and, not_false_iff]))
  have hm := may_iff3 r h
  repeat' (first | exact absurd hb Bool.false_ne_true | exact absurd hb.symm Bool.false_ne_true | refine W.seq ?_ | refine W.block ?_ | (refine rgx [5] [] ?_; intro K hK) | (refine drx [5] [] ?_; intro K hK) | refine oq ?_ | refine sk ?_ | (refine nk hK ?_; clear hK K) | (refine nd hK ?_; clear hK K) | refine sp ?_ | refine ex ?_ | (refine gs (fun hb => ?_) (fun hb => ?_) <;> replace hb := nb hb <;> try exact noB hb) | (refine cd (fun hb => ?_) (fun hb => ?_) <;> replace hb := nb hb <;> try exact noB hb) | (with_reducible refine Exists.intro _ (And.intro rfl ?_)) | ((with_reducible refine And.intro ?_ ?_); (focus exact sdA)) | fail)
  · rw [decide_eq_false (fun h => hb (hm.1 h).1)]
    all_goals (refine rt ?_; refine fin ?_; exact wqA)
  have hh : r.head := ‹_›
  clear hb
  refine W.lp (ι := Nat) (fun i => (ay 1 (.ptr 0 0 :: bool false :: ay 37 (.row 1 0 4 4 :: i64 4 :: i64 i :: ay 25 [])))) (fun _ => [.cells 35 r.cells, .cells 144 (flds3 0)]) (fun i => i ≤ 4 ∧ r.rng3 i) (fun i => 4 - i) 0 ⟨by decide, by unfold RecS.rng3; simp⟩ (Ent.to ?_ rfl) ?_
  · skip
    exact wkA
  · rintro i ⟨hi, hr⟩
    obtain rfl | rfl | rfl | rfl | rfl : i = 0 ∨ i = 1 ∨ i = 2 ∨ i = 3 ∨ i = 4 := by omega
    · skip
      repeat' (first | exact absurd hb Bool.false_ne_true | exact absurd hb.symm Bool.false_ne_true | refine W.seq ?_ | refine W.block ?_ | (refine rg [] ?_; intro K hK) | (refine dr [] ?_; intro K hK) | refine oq ?_ | refine sk ?_ | (refine nk hK ?_; clear hK K) | (refine nd hK ?_; clear hK K) | refine sp ?_ | refine ex ?_ | (refine gs (fun hb => ?_) (fun hb => ?_) <;> replace hb := nb hb <;> try exact noB hb) | (refine cd (fun hb => ?_) (fun hb => ?_) <;> replace hb := nb hb <;> try exact noB hb) | (with_reducible refine Exists.intro _ (And.intro rfl ?_)) | ((with_reducible refine And.intro ?_ ?_); (focus exact sdA)) | fail)
      · rw [decide_eq_false (p := r.may) (fun h => by have h5 := (hm.1 h).2.1; unfold RecS.rng3 inR at h5; simp only [Nat.reduceLeDiff, true_implies, forall_const] at h5; omega)]
        all_goals (refine rt ?_; refine fin ?_; exact wqA)
      · refine nx 1 ⟨by decide, ?_⟩ (by decide) (sb [0, 1] _ _ (hf := ?_))
        · unfold RecS.rng3 inR at hr ⊢
          simp only [Nat.reduceLeDiff, true_implies, forall_const, false_implies, true_and, and_true] at hr ⊢
          omega
        · skip
          exact wkA
      · rw [decide_eq_false (p := r.may) (fun h => by have h5 := (hm.1 h).2.1; unfold RecS.rng3 inR at h5; simp only [Nat.reduceLeDiff, true_implies, forall_const] at h5; omega)]
        all_goals (refine rt ?_; refine fin ?_; exact wqA)
    · skip
      repeat' (first | exact absurd hb Bool.false_ne_true | exact absurd hb.symm Bool.false_ne_true | refine W.seq ?_ | refine W.block ?_ | (refine rg [] ?_; intro K hK) | (refine dr [] ?_; intro K hK) | refine oq ?_ | refine sk ?_ | (refine nk hK ?_; clear hK K) | (refine nd hK ?_; clear hK K) | refine sp ?_ | refine ex ?_ | (refine gs (fun hb => ?_) (fun hb => ?_) <;> replace hb := nb hb <;> try exact noB hb) | (refine cd (fun hb => ?_) (fun hb => ?_) <;> replace hb := nb hb <;> try exact noB hb) | (with_reducible refine Exists.intro _ (And.intro rfl ?_)) | ((with_reducible refine And.intro ?_ ?_); (focus exact sdA)) | fail)
      · rw [decide_eq_false (p := r.may) (fun h => by have h5 := (hm.1 h).2.1; unfold RecS.rng3 inR at h5; simp only [Nat.reduceLeDiff, true_implies, forall_const] at h5; omega)]
        all_goals (refine rt ?_; refine fin ?_; exact wqA)
      · refine nx 2 ⟨by decide, ?_⟩ (by decide) (sb [0, 1] _ _ (hf := ?_))
        · unfold RecS.rng3 inR at hr ⊢
          simp only [Nat.reduceLeDiff, true_implies, forall_const, false_implies, true_and, and_true] at hr ⊢
          omega
        · skip
          exact wkA
      · rw [decide_eq_false (p := r.may) (fun h => by have h5 := (hm.1 h).2.1; unfold RecS.rng3 inR at h5; simp only [Nat.reduceLeDiff, true_implies, forall_const] at h5; omega)]
        all_goals (refine rt ?_; refine fin ?_; exact wqA)
    · skip
      repeat' (first | exact absurd hb Bool.false_ne_true | exact absurd hb.symm Bool.false_ne_true | refine W.seq ?_ | refine W.block ?_ | (refine rg [] ?_; intro K hK) | (refine dr [] ?_; intro K hK) | refine oq ?_ | refine sk ?_ | (refine nk hK ?_; clear hK K) | (refine nd hK ?_; clear hK K) | refine sp ?_ | refine ex ?_ | (refine gs (fun hb => ?_) (fun hb => ?_) <;> replace hb := nb hb <;> try exact noB hb) | (refine cd (fun hb => ?_) (fun hb => ?_) <;> replace hb := nb hb <;> try exact noB hb) | (with_reducible refine Exists.intro _ (And.intro rfl ?_)) | ((with_reducible refine And.intro ?_ ?_); (focus exact sdA)) | fail)
      · rw [decide_eq_false (p := r.may) (fun h => by have h5 := (hm.1 h).2.1; unfold RecS.rng3 inR at h5; simp only [Nat.reduceLeDiff, true_implies, forall_const] at h5; omega)]
        all_goals (refine rt ?_; refine fin ?_; exact wqA)
      · refine nx 3 ⟨by decide, ?_⟩ (by decide) (sb [0, 1] _ _ (hf := ?_))
        · unfold RecS.rng3 inR at hr ⊢
          simp only [Nat.reduceLeDiff, true_implies, forall_const, false_implies, true_and, and_true] at hr ⊢
          omega
        · skip
          exact wkA
      · rw [decide_eq_false (p := r.may) (fun h => by have h5 := (hm.1 h).2.1; unfold RecS.rng3 inR at h5; simp only [Nat.reduceLeDiff, true_implies, forall_const] at h5; omega)]
        all_goals (refine rt ?_; refine fin ?_; exact wqA)
    · skip
      repeat' (first | exact absurd hb Bool.false_ne_true | exact absurd hb.symm Bool.false_ne_true | refine W.seq ?_ | refine W.block ?_ | (refine rg [] ?_; intro K hK) | (refine dr [] ?_; intro K hK) | refine oq ?_ | refine sk ?_ | (refine nk hK ?_; clear hK K) | (refine nd hK ?_; clear hK K) | refine sp ?_ | refine ex ?_ | (refine gs (fun hb => ?_) (fun hb => ?_) <;> replace hb := nb hb <;> try exact noB hb) | (refine cd (fun hb => ?_) (fun hb => ?_) <;> replace hb := nb hb <;> try exact noB hb) | (with_reducible refine Exists.intro _ (And.intro rfl ?_)) | ((with_reducible refine And.intro ?_ ?_); (focus exact sdA)) | fail)
      · rw [decide_eq_false (p := r.may) (fun h => by have h5 := (hm.1 h).2.1; unfold RecS.rng3 inR at h5; simp only [Nat.reduceLeDiff, true_implies, forall_const] at h5; omega)]
        all_goals (refine rt ?_; refine fin ?_; exact wqA)
      · refine nx 4 ⟨by decide, ?_⟩ (by decide) (sb [0, 1] _ _ (hf := ?_))
        · unfold RecS.rng3 inR at hr ⊢
          simp only [Nat.reduceLeDiff, true_implies, forall_const, false_implies, true_and, and_true] at hr ⊢
          omega
        · skip
          exact wkA
      · rw [decide_eq_false (p := r.may) (fun h => by have h5 := (hm.1 h).2.1; unfold RecS.rng3 inR at h5; simp only [Nat.reduceLeDiff, true_implies, forall_const] at h5; omega)]
        all_goals (refine rt ?_; refine fin ?_; exact wqA)
    · skip
      repeat' (first | exact absurd hb Bool.false_ne_true | exact absurd hb.symm Bool.false_ne_true | refine W.seq ?_ | refine W.block ?_ | (refine rg [] ?_; intro K hK) | (refine dr [] ?_; intro K hK) | refine cl (c4) ?_ | refine oq ?_ | refine sk ?_ | (refine nk hK ?_; clear hK K) | (refine nd hK ?_; clear hK K) | refine sp ?_ | refine ex ?_ | (refine gs (fun hb => ?_) (fun hb => ?_) <;> replace hb := nb hb <;> try exact noB hb) | (refine cd (fun hb => ?_) (fun hb => ?_) <;> replace hb := nb hb <;> try exact noB hb) | (with_reducible refine Exists.intro _ (And.intro rfl ?_)) | ((with_reducible refine And.intro ?_ ?_); (focus exact sdA)) | fail)
      rw [show decide r.may = r.vars.all (fun b => decide (b.length ≤ 100)) by rw [Bool.eq_iff_iff, decide_eq_true_eq, hm]; exact ⟨fun h => h.2.2, fun h => ⟨hh, hr, h⟩⟩, Bool.not_not]
      all_goals (refine rt ?_; refine fin ?_; exact wqA)
theorem may_fn0 (r : RecS) (h1 : ¬ r.kind = 1) (h2 : ¬ r.kind = 2) (h3 : ¬ r.kind = 3) : Fn Try.prog 24 [r.v] [] (bool (decide r.may)) [] := by
  have c1 := fields_fn0 r h1 h2 h3
  rw [decide_eq_false (p := r.may) (fun h => by unfold RecS.may at h; omega)]
  refine en Try.func24 (hfr := by (simp only [Try.ntmps24, go_sem, Nat.reduceSub, Nat.reduceAdd]; rfl)) ?_
  repeat' (first | exact absurd hb Bool.false_ne_true | exact absurd hb.symm Bool.false_ne_true | refine W.seq ?_ | refine W.block ?_ | (refine rg [] ?_; intro K hK) | (refine dr [] ?_; intro K hK) | refine cle [0] 0 (c1) ?_ | refine oq ?_ | refine sk ?_ | (refine nk hK ?_; clear hK K) | (refine nd hK ?_; clear hK K) | refine sp ?_ | refine ex ?_ | (refine gs (fun hb => ?_) (fun hb => ?_) <;> replace hb := nb hb <;> try exact noB hb) | (refine cd (fun hb => ?_) (fun hb => ?_) <;> replace hb := nb hb <;> try exact noB hb) | (with_reducible refine Exists.intro _ (And.intro rfl ?_)) | ((with_reducible refine And.intro ?_ ?_); (focus exact sdA)) | fail)
  all_goals (refine rt ?_; refine fin ?_; exact wqA)
theorem may_fn (r : RecS) : Fn Try.prog 24 [r.v] [] (bool (decide r.may)) [] := by
  by_cases h1 : r.kind = 1
  · exact may_fn1 r h1
  by_cases h2 : r.kind = 2
  · exact may_fn2 r h2
  by_cases h3 : r.kind = 3
  · exact may_fn3 r h3
  exact may_fn0 r h1 h2 h3
end Go.Proofs.Ytpmbeldmclcjlaa.Vs
