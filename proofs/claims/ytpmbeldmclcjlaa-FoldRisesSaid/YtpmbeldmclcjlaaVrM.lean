/- records: the law's helpers; records: alike, as the document says. -/
import Derived.Test.YtpmbeldmclcjlaaVrJ
import Derived.Test.YtpmbeldmclcjlaaVsZ
set_option linter.unusedVariables false
set_option linter.unusedSimpArgs false
namespace Go.Proofs.Ytpmbeldmclcjlaa.Vs
open Go.RowKit
set_option maxRecDepth 100000
theorem as_fn (r : RecS) : Fn Try.prog 26 [r.v] [] r.v [] := by
  refine en Try.func26 (hfr := by (simp only [Try.ntmps26, go_sem, Nat.reduceSub, Nat.reduceAdd]; rfl)) ?_
  repeat' (first | exact absurd hb Bool.false_ne_true | exact absurd hb.symm Bool.false_ne_true | refine W.seq ?_ | refine W.block ?_ | (refine rg [] ?_; intro K hK) | (refine dr [] ?_; intro K hK) | ((refine opSt ?_)) | refine oq ?_ | refine sk ?_ | (refine nk hK ?_; clear hK K) | (refine nd hK ?_; clear hK K) | refine sp ?_ | refine ex ?_ | (refine gs (fun hb => ?_) (fun hb => ?_) <;> replace hb := nb hb <;> try exact noB hb) | (refine cd (fun hb => ?_) (fun hb => ?_) <;> replace hb := nb hb <;> try exact noB hb) | (with_reducible refine Exists.intro _ (And.intro rfl ?_)) | ((with_reducible refine And.intro ?_ ?_); (focus exact sdA)) | fail)
  all_goals (refine rt ?_; refine fin ?_; exact wqA)
def RecS.few (r : RecS) : Bool := r.vars.all (fun b => decide (b.length ≤ 300)) && (decide (r.vars.length ≤ 20) && decide (r.value.length ≤ 300))
theorem few_fn (r : RecS) : Fn Try.prog 21 [r.v] [] (bool r.few) [] := by
  refine en Try.func21 (hfr := by (simp only [Try.ntmps21, go_sem, Nat.reduceSub, Nat.reduceAdd]; rfl)) ?_
  repeat' (first | exact absurd hb Bool.false_ne_true | exact absurd hb.symm Bool.false_ne_true | refine W.seq ?_ | refine W.block ?_ | (refine rgx [1] [] ?_; intro K hK) | (refine drx [1] [] ?_; intro K hK) | refine oq ?_ | refine sk ?_ | (refine nk hK ?_; clear hK K) | (refine nd hK ?_; clear hK K) | refine sp ?_ | refine ex ?_ | (refine gs (fun hb => ?_) (fun hb => ?_) <;> replace hb := nb hb <;> try exact noB hb) | (refine cd (fun hb => ?_) (fun hb => ?_) <;> replace hb := nb hb <;> try exact noB hb) | (with_reducible refine Exists.intro _ (And.intro rfl ?_)) | ((with_reducible refine And.intro ?_ ?_); (focus exact sdA)) | fail)
  refine W.leC (i := 0) (j := 5) rfl rfl fun hm => ?_
  rw [List.length_map] at hm
  repeat' (first | exact absurd hb Bool.false_ne_true | exact absurd hb.symm Bool.false_ne_true | refine W.seq ?_ | refine W.block ?_ | (refine rgx [2] [] ?_; intro K hK) | (refine drx [2] [] ?_; intro K hK) | refine oq ?_ | refine sk ?_ | (refine nk hK ?_; clear hK K) | (refine nd hK ?_; clear hK K) | refine sp ?_ | refine ex ?_ | (refine gs (fun hb => ?_) (fun hb => ?_) <;> replace hb := nb hb <;> try exact noB hb) | (refine cd (fun hb => ?_) (fun hb => ?_) <;> replace hb := nb hb <;> try exact noB hb) | (with_reducible refine Exists.intro _ (And.intro rfl ?_)) | ((with_reducible refine And.intro ?_ ?_); (focus exact sdA)) | fail)
  refine W.lp (ι := Nat) (fun i => (ay 1 (.ptr 0 0 :: ay 1 (i64 i :: ay 27 [])))) (fun _ => [.cells 35 r.cells]) (fun i => i ≤ r.vars.length ∧ (r.vars.take i).all (fun b => decide (b.length ≤ 300)) = true) (fun i => r.vars.length - i) 0 ⟨Nat.zero_le _, rfl⟩ (Ent.to ?_ rfl) ?_
  · skip
    exact wkA
  · rintro i ⟨hi, ha⟩
    by_cases hlt : i < r.vars.length
    · have hx := gdS (l := r.vars) (i := i) (by omega) []
      repeat' (first | exact absurd hb Bool.false_ne_true | exact absurd hb.symm Bool.false_ne_true | refine W.seq ?_ | refine W.block ?_ | (refine rg [] ?_; intro K hK) | (refine dr [] ?_; intro K hK) | refine oq ?_ | refine sk ?_ | (refine nk hK ?_; clear hK K) | (refine nd hK ?_; clear hK K) | refine sp ?_ | refine ex ?_ | (refine gs (fun hb => ?_) (fun hb => ?_) <;> replace hb := nb hb <;> try exact noB hb) | (refine cd (fun hb => ?_) (fun hb => ?_) <;> replace hb := nb hb <;> try exact noB hb) | (with_reducible refine Exists.intro _ (And.intro rfl ?_)) | ((with_reducible refine And.intro ?_ ?_); (focus exact sdA)) | fail)
      · rw [show r.few = false by unfold RecS.few; rw [allF hx (by simp only [decide_eq_false_iff_not]; omega)]; rfl]
        all_goals (refine rt ?_; refine fin ?_; exact wqA)
      · refine nx (i + 1) ⟨by omega, allT ha hx (by simp only [decide_eq_true_eq]; omega)⟩ (by omega) (Ent.to ?_ rfl)
        exact wkA
    · rw [List.take_of_length_le (by omega)] at ha
      repeat' (first | exact absurd hb Bool.false_ne_true | exact absurd hb.symm Bool.false_ne_true | refine W.seq ?_ | refine W.block ?_ | (refine rg [] ?_; intro K hK) | (refine dr [] ?_; intro K hK) | refine oq ?_ | refine sk ?_ | (refine nk hK ?_; clear hK K) | (refine nd hK ?_; clear hK K) | refine sp ?_ | refine ex ?_ | (refine gs (fun hb => ?_) (fun hb => ?_) <;> replace hb := nb hb <;> try exact noB hb) | (refine cd (fun hb => ?_) (fun hb => ?_) <;> replace hb := nb hb <;> try exact noB hb) | (with_reducible refine Exists.intro _ (And.intro rfl ?_)) | ((with_reducible refine And.intro ?_ ?_); (focus exact sdA)) | fail)
      all_goals (refine rt ?_; refine fin ?_; refine Wk.bool ?_; unfold RecS.few; rw [ha, Bool.true_and, Bool.eq_iff_iff]; simp only [Bool.and_eq_true, decide_eq_true_eq, Bool.false_eq_true, false_iff]; omega)
/-- A state. -/
structure StS where
  step : Int
  visit : Int
  tries : Int
  off : Int
  vars : List (List UInt8)
deriving DecidableEq
abbrev StS.cells (s : StS) : List V := [i64 s.step, i64 s.visit, i64 s.tries, i64 s.off, texts s.vars]
abbrev StS.v (s : StS) : V := .agg s.cells
/-- Alike but for the texts, of which there are as many. -/
def StS.near (a b : StS) : Prop := a.step = b.step ∧ a.visit = b.visit ∧ a.tries = b.tries ∧ a.off = b.off ∧ a.vars.length = b.vars.length
instance (a b : StS) : Decidable (a.near b) := by unfold StS.near; exact inferInstance
theorem StS.eq_iff (a b : StS) : a = b ↔ a.near b ∧ a.vars = b.vars := by
  obtain ⟨⟩ := a
  obtain ⟨⟩ := b
  simp only [StS.mk.injEq, StS.near]
  constructor
  · rintro ⟨rfl, rfl, rfl, rfl, rfl⟩
    simp
  · rintro ⟨⟨rfl, rfl, rfl, rfl, _⟩, rfl⟩
    simp
set_option maxHeartbeats 4000000 in
theorem state_fn (a b : StS) : Fn Try.prog 33 [a.v, b.v] [] (bool (decide (a = b))) [] := by
  have hs := StS.eq_iff a b
  refine en Try.func33 (hfr := by (simp only [Try.ntmps33, go_sem, Nat.reduceSub, Nat.reduceAdd]; rfl)) ?_
  repeat' (first | exact absurd hb Bool.false_ne_true | exact absurd hb.symm Bool.false_ne_true | refine W.seq ?_ | refine W.block ?_ | (refine rgx [1] [] ?_; intro K hK) | (refine drx [1] [] ?_; intro K hK) | refine oq ?_ | refine sk ?_ | (refine nk hK ?_; clear hK K) | (refine nd hK ?_; clear hK K) | refine sp ?_ | refine ex ?_ | (refine gs (fun hb => ?_) (fun hb => ?_) <;> replace hb := nb hb <;> try exact noB hb) | (refine cd (fun hb => ?_) (fun hb => ?_) <;> replace hb := nb hb <;> try exact noB hb) | (with_reducible refine Exists.intro _ (And.intro rfl ?_)) | ((with_reducible refine And.intro ?_ ?_); (focus exact sdA)) | fail)
  refine W.leC (i := 0) (j := 4) rfl rfl fun hm => ?_
  refine W.leC (i := 1) (j := 4) rfl rfl fun hn => ?_
  rw [List.length_map] at hm hn
  refine W.jn ((ay 2 (.ptr 0 0 :: .ptr 1 0 :: bool false :: ay 35 (bool (!decide (a.near b)) :: ay 20 [])))) [.cells 31 a.cells, .cells 31 b.cells] ?_ ?_
  · skip
    repeat' (first | exact absurd hb Bool.false_ne_true | exact absurd hb.symm Bool.false_ne_true | refine W.seq ?_ | refine W.block ?_ | (refine rg [] ?_; intro K hK) | (refine dr [] ?_; intro K hK) | refine oq ?_ | refine sk ?_ | (refine nk hK ?_; clear hK K) | (refine nd hK ?_; clear hK K) | refine sp ?_ | refine ex ?_ | (refine gs (fun hb => ?_) (fun hb => ?_) <;> replace hb := nb hb <;> try exact noB hb) | (refine cd (fun hb => ?_) (fun hb => ?_) <;> replace hb := nb hb <;> try exact noB hb) | (with_reducible refine Exists.intro _ (And.intro rfl ?_)) | ((with_reducible refine And.intro ?_ ?_); (focus exact sdA)) | fail)
    all_goals refine Ent.to ?_ rfl
    all_goals (repeat' (first | exact WkL.nil | refine WkL.cons ?_ ?_ | exact Wk.any | exact Wk.rfl | refine Wk.bool ?_))
    all_goals (rw [Bool.eq_iff_iff]; simp only [Bool.not_eq_true', decide_eq_false_iff_not, decide_eq_true_eq, bne_iff_ne, ne_eq, true_iff, false_iff, Bool.false_eq_true]; unfold StS.near; omega)
  repeat' (first | exact absurd hb Bool.false_ne_true | exact absurd hb.symm Bool.false_ne_true | refine W.seq ?_ | refine W.block ?_ | (refine rgx [4] [] ?_; intro K hK) | (refine drx [4] [] ?_; intro K hK) | refine oq ?_ | refine sk ?_ | (refine nk hK ?_; clear hK K) | (refine nd hK ?_; clear hK K) | refine sp ?_ | refine ex ?_ | (refine gs (fun hb => ?_) (fun hb => ?_) <;> replace hb := nb hb <;> try exact noB hb) | (refine cd (fun hb => ?_) (fun hb => ?_) <;> replace hb := nb hb <;> try exact noB hb) | (with_reducible refine Exists.intro _ (And.intro rfl ?_)) | ((with_reducible refine And.intro ?_ ?_); (focus exact sdA)) | fail)
  · rw [decide_eq_false (fun h => hb (hs.1 h).1)]
    all_goals (refine rt ?_; refine fin ?_; exact wqA)
  have hl : a.vars.length = b.vars.length := (show a.near b from ‹_›).2.2.2.2
  have hnear : a.near b := ‹_›
  clear hb
  refine W.lp (ι := Nat) (fun i => (ay 2 (.ptr 0 0 :: .ptr 1 0 :: bool false :: i64 i :: ay 55 []))) (fun _ => [.cells 31 a.cells, .cells 31 b.cells]) (fun i => i ≤ a.vars.length ∧ a.vars.take i = b.vars.take i) (fun i => a.vars.length - i) 0 ⟨Nat.zero_le _, rfl⟩ (Ent.to ?_ rfl) ?_
  · skip
    exact wkA
  · rintro i ⟨hi, ht⟩
    have hg : ∀ (zs : List (List UInt8)), i < zs.length → zs[i]? = some (zs.getD i []) := fun zs h => by rw [List.getD_eq_getElem?_getD, List.getElem?_eq_getElem h]; rfl
    by_cases hlt : i < a.vars.length
    · skip
      repeat' (first | exact absurd hb Bool.false_ne_true | exact absurd hb.symm Bool.false_ne_true | refine W.seq ?_ | refine W.block ?_ | (refine rg [] ?_; intro K hK) | (refine dr [] ?_; intro K hK) | refine oq ?_ | refine sk ?_ | (refine nk hK ?_; clear hK K) | (refine nd hK ?_; clear hK K) | refine sp ?_ | refine ex ?_ | (refine gs (fun hb => ?_) (fun hb => ?_) <;> replace hb := nb hb <;> try exact noB hb) | (refine cd (fun hb => ?_) (fun hb => ?_) <;> replace hb := nb hb <;> try exact noB hb) | (with_reducible refine Exists.intro _ (And.intro rfl ?_)) | ((with_reducible refine And.intro ?_ ?_); (focus exact sdA)) | fail)
      · rw [decide_eq_false (p := a = b) (fun h => hb (by rw [h]))]
        all_goals (refine rt ?_; refine fin ?_; exact wqA)
      · refine nx (i + 1) ⟨by omega, ?_⟩ (by omega) (Ent.to ?_ rfl)
        · rw [List.take_add_one, List.take_add_one, ht, hg a.vars (by omega), hg b.vars (by omega), hb]
        · skip
          exact wkA
    · rw [List.take_of_length_le (by omega), List.take_of_length_le (by omega)] at ht
      rw [decide_eq_true (hs.2 ⟨hnear, ht⟩)]
      repeat' (first | exact absurd hb Bool.false_ne_true | exact absurd hb.symm Bool.false_ne_true | refine W.seq ?_ | refine W.block ?_ | (refine rg [] ?_; intro K hK) | (refine dr [] ?_; intro K hK) | refine oq ?_ | refine sk ?_ | (refine nk hK ?_; clear hK K) | (refine nd hK ?_; clear hK K) | refine sp ?_ | refine ex ?_ | (refine gs (fun hb => ?_) (fun hb => ?_) <;> replace hb := nb hb <;> try exact noB hb) | (refine cd (fun hb => ?_) (fun hb => ?_) <;> replace hb := nb hb <;> try exact noB hb) | (with_reducible refine Exists.intro _ (And.intro rfl ?_)) | ((with_reducible refine And.intro ?_ ?_); (focus exact sdA)) | fail)
      all_goals (refine rt ?_; refine fin ?_; exact wqA)
/-- A record's state. -/
def RecS.state (r : RecS) : StS := ⟨r.step, r.visit, r.tries, r.off, r.vars⟩
set_option maxHeartbeats 4000000 in
theorem xsame_fn (a b : RecS) : Fn Try.prog 29 [a.v, b.v] [] (bool (decide (a = b))) [] := by
  have c := state_fn a.state b.state
  have hs : a = b ↔ a.state = b.state ∧ a.kind = b.kind ∧ a.vis = b.vis ∧ a.st = b.st ∧ a.try' = b.try' ∧ a.to = b.to ∧ a.ofs = b.ofs ∧ a.vr = b.vr ∧ a.value = b.value := by
    obtain ⟨⟩ := a
    obtain ⟨⟩ := b
    simp only [RecS.mk.injEq, RecS.state, StS.mk.injEq]
    constructor
    · rintro ⟨rfl, rfl, rfl, rfl, rfl, rfl, rfl, rfl, rfl, rfl, rfl, rfl, rfl⟩
      simp
    · rintro ⟨⟨rfl, rfl, rfl, rfl, rfl⟩, rfl, rfl, rfl, rfl, rfl, rfl, rfl, rfl⟩
      simp
  refine en Try.func29 (hfr := by (simp only [Try.ntmps29, go_sem, Nat.reduceSub, Nat.reduceAdd]; rfl)) ?_
  repeat' (first | exact absurd hb Bool.false_ne_true | exact absurd hb.symm Bool.false_ne_true | refine W.seq ?_ | refine W.block ?_ | (refine rg [] ?_; intro K hK) | (refine dr [] ?_; intro K hK) | refine cl (c) ?_ | refine oq ?_ | refine sk ?_ | (refine nk hK ?_; clear hK K) | (refine nd hK ?_; clear hK K) | refine sp ?_ | refine ex ?_ | (refine gs (fun hb => ?_) (fun hb => ?_) <;> replace hb := nb hb <;> try exact noB hb) | (refine cd (fun hb => ?_) (fun hb => ?_) <;> replace hb := nb hb <;> try exact noB hb) | (with_reducible refine Exists.intro _ (And.intro rfl ?_)) | ((with_reducible refine And.intro ?_ ?_); (focus exact sdA)) | fail)
  all_goals (refine rt ?_; refine fin ?_; refine Wk.bool ?_; rw [Bool.eq_iff_iff]; simp only [decide_eq_true_eq, beq_iff_eq, Bool.false_eq_true, false_iff, hs])
  all_goals first | exact ⟨fun h => ⟨‹_›, ‹_›, ‹_›, ‹_›, ‹_›, ‹_›, ‹_›, ‹_›, h⟩, fun h => h.2.2.2.2.2.2.2.2⟩ | exact fun h => ‹¬ a.vr = b.vr› h.2.2.2.2.2.2.2.1 | exact fun h => ‹¬ a.ofs = b.ofs› h.2.2.2.2.2.2.1 | exact fun h => ‹¬ a.to = b.to› h.2.2.2.2.2.1 | exact fun h => ‹¬ a.try' = b.try'› h.2.2.2.2.1 | exact fun h => ‹¬ a.st = b.st› h.2.2.2.1 | exact fun h => ‹¬ a.vis = b.vis› h.2.2.1 | exact fun h => ‹¬ a.kind = b.kind› h.2.1 | exact fun h => ‹¬ a.state = b.state› h.1
end Go.Proofs.Ytpmbeldmclcjlaa.Vs
