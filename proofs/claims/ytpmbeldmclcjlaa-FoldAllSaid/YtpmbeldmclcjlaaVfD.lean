/- folding: what an Outcome does to a run; folding: the state behind a record; folding: the state behind a record, as the document says. -/
import Derived.Test.YtpmbeldmclcjlaaVfA
import Derived.Test.YtpmbeldmclcjlaaVrP
set_option linter.unusedVariables false
set_option linter.unusedSimpArgs false
namespace Go.Proofs.Ytpmbeldmclcjlaa.Vs
open Go.RowKit
set_option maxRecDepth 100000
/-- An Outcome that is late. -/
def lateS (b : BookS) (s : StS) (r : RecS) : Prop := r.ofs = s.off ∧ r.vr = -1 ∧ (r.to = (b.at s.step).els ∨ r.to = -2)
instance (b : BookS) (s : StS) (r : RecS) : Decidable (lateS b s r) := by unfold lateS; exact inferInstance
def armS (b : BookS) (s : StS) (r : RecS) : Bool := (b.at s.step).arms.any (isArm r)
/-- May an Outcome follow? -/
def outOK (b : BookS) (s : StS) (r : RecS) : Prop := 1 ≤ s.tries ∧ (-3 ≤ r.to ∧ r.to < b.steps.length) ∧ r.vr < s.vars.length ∧ (lateS b s r ∨ (armS b s r = true ∧ s.off ≤ r.ofs))
instance (b : BookS) (s : StS) (r : RecS) : Decidable (outOK b s r) := by unfold outOK; exact inferInstance
/-- Where it goes to. -/
def StS.went (b : BookS) (s : StS) (r : RecS) : StS := ⟨if 0 ≤ r.to ∧ b.most ≤ s.visit then -2 else r.to, s.visit + 1, 0, r.ofs, if 0 ≤ r.vr then s.vars.set r.vr.toNat r.value else s.vars⟩
/-- The things of an Outcome's walk. -/
abbrev outS (b : BookS) (s : StS) (r : RecS) : List Ob := [.cells 136 [.d (stepsD b.steps), .d (namesD b.vars), i64 b.most, i64 s.step, i64 s.visit, i64 s.tries, i64 s.off, .hd 1 1 s.vars.length], .grw 33 1 1 s.vars.length (rowT s.vars), .cells 35 r.cells, .cells 42 (b.steps.getD s.step.toNat StepS.zero).cells]
set_option maxHeartbeats 4000000 in
theorem outcome_fn (b : BookS) (s : StS) (r : RecS) (h0 : 0 ≤ s.step ∧ s.step < b.steps.length) (hb : b.ok) (hvis : s.visit ≤ b.most) (hv1 : 1 ≤ s.visit) (hv : -1 ≤ r.vr) (hval : r.value.length ≤ 100) : Fn Try.prog 134 [.ptr 0 0, r.v] (runS b s) (bool (decide (outOK b s r))) (runS b (if outOK b s r then s.went b r else s)) := by
  have ca := containsA_fn (b.steps.getD s.step.toNat StepS.zero).arms r
  have ct := target_fn b r.to
  have cc := clone_fn r.value (by omega)
  have hok := hb
  unfold BookS.ok at hok
  obtain ⟨k1, k2, k3, k4, _⟩ := hok
  rw [show (b.steps.getD s.step.toNat StepS.zero).arms.any (isArm r) = armS b s r from rfl] at ca
  refine en Try.func134 (hfr := by (simp only [Try.ntmps134, go_sem, Nat.reduceSub, Nat.reduceAdd]; rfl)) ?_
  repeat' (first | exact absurd hb Bool.false_ne_true | exact absurd hb.symm Bool.false_ne_true | refine W.seq ?_ | refine W.block ?_ | (refine rgx [4] [] ?_; intro K hK) | (refine drx [4] [] ?_; intro K hK) | refine cle [2] 0 (ca) ?_ | refine oq ?_ | refine sk ?_ | (refine nk hK ?_; clear hK K) | (refine nd hK ?_; clear hK K) | refine sp ?_ | refine ex ?_ | (refine gs (fun hb => ?_) (fun hb => ?_) <;> replace hb := nb hb <;> try exact noB hb) | (refine cd (fun hb => ?_) (fun hb => ?_) <;> replace hb := nb hb <;> try exact noB hb) | (with_reducible refine Exists.intro _ (And.intro rfl ?_)) | ((with_reducible refine And.intro ?_ ?_); (focus exact sdA)) | fail)
  refine W.jn ((.ptr 0 0 :: ay 2 (.ptr 2 0 :: bool false :: .ptr 0 3 :: ay 1 (bool (armS b s r) :: bool (decide (lateS b s r)) :: ay 136 [])))) (outS b s r) ?_ ?_
  · skip
    repeat' (first | exact absurd hb Bool.false_ne_true | exact absurd hb.symm Bool.false_ne_true | refine W.seq ?_ | refine W.block ?_ | (refine rg [] ?_; intro K hK) | (refine dr [] ?_; intro K hK) | refine oq ?_ | refine sk ?_ | (refine nk hK ?_; clear hK K) | (refine nd hK ?_; clear hK K) | refine sp ?_ | refine ex ?_ | (refine gs (fun hb => ?_) (fun hb => ?_) <;> replace hb := nb hb <;> try exact noB hb) | (refine cd (fun hb => ?_) (fun hb => ?_) <;> replace hb := nb hb <;> try exact noB hb) | (with_reducible refine Exists.intro _ (And.intro rfl ?_)) | ((with_reducible refine And.intro ?_ ?_); (focus exact sdA)) | fail)
    all_goals refine Ent.to ?_ rfl
    all_goals (repeat' (first | exact WkL.nil | refine WkL.cons ?_ ?_ | exact Wk.any | exact Wk.rfl | refine Wk.bool ?_))
    all_goals (rw [Bool.eq_iff_iff]; simp only [beq_iff_eq, decide_eq_true_eq, true_iff, false_iff, Bool.false_eq_true]; unfold lateS BookS.at; omega)
  repeat' (first | exact absurd hb Bool.false_ne_true | exact absurd hb.symm Bool.false_ne_true | refine W.seq ?_ | refine W.block ?_ | (refine rgx [5] [] ?_; intro K hK) | (refine drx [5] [] ?_; intro K hK) | refine oq ?_ | refine sk ?_ | (refine nk hK ?_; clear hK K) | (refine nd hK ?_; clear hK K) | refine sp ?_ | refine ex ?_ | (refine gs (fun hb => ?_) (fun hb => ?_) <;> replace hb := nb hb <;> try exact noB hb) | (refine cd (fun hb => ?_) (fun hb => ?_) <;> replace hb := nb hb <;> try exact noB hb) | (with_reducible refine Exists.intro _ (And.intro rfl ?_)) | ((with_reducible refine And.intro ?_ ?_); (focus exact sdA)) | fail)
  refine W.jn ((.ptr 0 0 :: ay 2 (.ptr 2 0 :: bool false :: .ptr 0 3 :: ay 86 (bool (!decide (outOK b s r)) :: ay 52 [])))) (outS b s r) ?_ ?_
  · by_cases ht : -3 ≤ r.to ∧ r.to < b.steps.length
    · rw [decide_eq_true ht] at ct
      repeat' (first | exact absurd hb Bool.false_ne_true | exact absurd hb.symm Bool.false_ne_true | refine W.seq ?_ | refine W.block ?_ | (refine rg [] ?_; intro K hK) | (refine dr [] ?_; intro K hK) | refine cl (ct) ?_ | refine oq ?_ | refine sk ?_ | (refine nk hK ?_; clear hK K) | (refine nd hK ?_; clear hK K) | refine sp ?_ | refine ex ?_ | (refine gs (fun hb => ?_) (fun hb => ?_) <;> replace hb := nb hb <;> try exact noB hb) | (refine cd (fun hb => ?_) (fun hb => ?_) <;> replace hb := nb hb <;> try exact noB hb) | (with_reducible refine Exists.intro _ (And.intro rfl ?_)) | ((with_reducible refine And.intro ?_ ?_); (focus exact sdA)) | fail)
      all_goals refine Ent.to ?_ rfl
      all_goals (repeat' (first | exact WkL.nil | refine WkL.cons ?_ ?_ | exact Wk.any | exact Wk.rfl | refine Wk.bool ?_))
      all_goals (rw [Bool.eq_iff_iff]; simp only [decide_eq_true_eq, Bool.not_eq_true', decide_eq_false_iff_not, true_iff, false_iff, Bool.false_eq_true, Classical.not_not]; unfold outOK)
      · have q1 : ¬ lateS b s r := ‹_›
        have q2 : armS b s r = true := ‹_›
        simp only [q1, q2, false_or, true_and]
        omega
      · have q1 : ¬ lateS b s r := ‹_›
        have q2 : armS b s r = false := ‹_›
        simp [q1, q2]
      · have q1 : lateS b s r := ‹_›
        simp only [q1, true_or, and_true]
        omega
      · exact fun h => by omega
      · exact fun h => by omega
    · rw [decide_eq_false ht] at ct
      rw [decide_eq_false (p := outOK b s r) (fun h => ht h.2.1)]
      repeat' (first | exact absurd hb Bool.false_ne_true | exact absurd hb.symm Bool.false_ne_true | refine W.seq ?_ | refine W.block ?_ | (refine rg [] ?_; intro K hK) | (refine dr [] ?_; intro K hK) | refine cl (ct) ?_ | refine oq ?_ | refine sk ?_ | (refine nk hK ?_; clear hK K) | (refine nd hK ?_; clear hK K) | refine sp ?_ | refine ex ?_ | (refine gs (fun hb => ?_) (fun hb => ?_) <;> replace hb := nb hb <;> try exact noB hb) | (refine cd (fun hb => ?_) (fun hb => ?_) <;> replace hb := nb hb <;> try exact noB hb) | (with_reducible refine Exists.intro _ (And.intro rfl ?_)) | ((with_reducible refine And.intro ?_ ?_); (focus exact sdA)) | fail)
      all_goals refine Ent.to ?_ rfl
      all_goals exact wkA
  by_cases ho : outOK b s r
  · rw [if_pos ho, decide_eq_true ho]
    have ho' := ho
    unfold outOK at ho'
    obtain ⟨a1, a2, a3, a4⟩ := ho'
    have he : ∀ (st : Int), 0 ≤ r.vr → runS b ⟨st, s.visit + 1, 0, r.ofs, s.vars.set r.vr.toNat r.value⟩ = [.cells 136 [.d (stepsD b.steps), .d (namesD b.vars), i64 b.most, i64 st, i64 (s.visit + 1), i64 0, i64 r.ofs, .hd 1 1 s.vars.length], .grw 33 1 1 s.vars.length (rowT (s.vars.set r.vr.toNat r.value))] := fun st _ => by
      simp only [runS, List.length_set]
    unfold StS.went
    by_cases g1 : 0 ≤ r.to ∧ b.most ≤ s.visit
    · rw [if_pos g1]
      by_cases g2 : 0 ≤ r.vr
      · rw [if_pos g2, he _ g2]
        repeat' (first | exact absurd hb Bool.false_ne_true | exact absurd hb.symm Bool.false_ne_true | refine W.seq ?_ | refine W.block ?_ | (refine rg [] ?_; intro K hK) | (refine dr [] ?_; intro K hK) | refine cl (cc) ?_ | refine oq ?_ | refine sk ?_ | (refine nk hK ?_; clear hK K) | (refine nd hK ?_; clear hK K) | refine sp ?_ | refine ex ?_ | (refine gs (fun hb => ?_) (fun hb => ?_) <;> replace hb := nb hb <;> try exact noB hb) | (refine cd (fun hb => ?_) (fun hb => ?_) <;> replace hb := nb hb <;> try exact noB hb) | (with_reducible refine Exists.intro _ (And.intro rfl ?_)) | ((with_reducible refine And.intro ?_ ?_); (focus exact sdA)) | fail)
        all_goals first | (exfalso; omega) | ((try rw [rowT_set]); refine rt ?_; refine fin ?_; exact wqA)
      · rw [if_neg g2]
        repeat' (first | exact absurd hb Bool.false_ne_true | exact absurd hb.symm Bool.false_ne_true | refine W.seq ?_ | refine W.block ?_ | (refine rg [] ?_; intro K hK) | (refine dr [] ?_; intro K hK) | refine cl (cc) ?_ | refine oq ?_ | refine sk ?_ | (refine nk hK ?_; clear hK K) | (refine nd hK ?_; clear hK K) | refine sp ?_ | refine ex ?_ | (refine gs (fun hb => ?_) (fun hb => ?_) <;> replace hb := nb hb <;> try exact noB hb) | (refine cd (fun hb => ?_) (fun hb => ?_) <;> replace hb := nb hb <;> try exact noB hb) | (with_reducible refine Exists.intro _ (And.intro rfl ?_)) | ((with_reducible refine And.intro ?_ ?_); (focus exact sdA)) | fail)
        all_goals first | (exfalso; omega) | ((try rw [rowT_set]); refine rt ?_; refine fin ?_; exact wqA)
    · rw [if_neg g1]
      by_cases g2 : 0 ≤ r.vr
      · rw [if_pos g2, he _ g2]
        repeat' (first | exact absurd hb Bool.false_ne_true | exact absurd hb.symm Bool.false_ne_true | refine W.seq ?_ | refine W.block ?_ | (refine rg [] ?_; intro K hK) | (refine dr [] ?_; intro K hK) | refine cl (cc) ?_ | refine oq ?_ | refine sk ?_ | (refine nk hK ?_; clear hK K) | (refine nd hK ?_; clear hK K) | refine sp ?_ | refine ex ?_ | (refine gs (fun hb => ?_) (fun hb => ?_) <;> replace hb := nb hb <;> try exact noB hb) | (refine cd (fun hb => ?_) (fun hb => ?_) <;> replace hb := nb hb <;> try exact noB hb) | (with_reducible refine Exists.intro _ (And.intro rfl ?_)) | ((with_reducible refine And.intro ?_ ?_); (focus exact sdA)) | fail)
        all_goals first | (exfalso; omega) | ((try rw [rowT_set]); refine rt ?_; refine fin ?_; exact wqA)
      · rw [if_neg g2]
        repeat' (first | exact absurd hb Bool.false_ne_true | exact absurd hb.symm Bool.false_ne_true | refine W.seq ?_ | refine W.block ?_ | (refine rg [] ?_; intro K hK) | (refine dr [] ?_; intro K hK) | refine cl (cc) ?_ | refine oq ?_ | refine sk ?_ | (refine nk hK ?_; clear hK K) | (refine nd hK ?_; clear hK K) | refine sp ?_ | refine ex ?_ | (refine gs (fun hb => ?_) (fun hb => ?_) <;> replace hb := nb hb <;> try exact noB hb) | (refine cd (fun hb => ?_) (fun hb => ?_) <;> replace hb := nb hb <;> try exact noB hb) | (with_reducible refine Exists.intro _ (And.intro rfl ?_)) | ((with_reducible refine And.intro ?_ ?_); (focus exact sdA)) | fail)
        all_goals first | (exfalso; omega) | ((try rw [rowT_set]); refine rt ?_; refine fin ?_; exact wqA)
  · rw [if_neg ho, decide_eq_false ho]
    repeat' (first | exact absurd hb Bool.false_ne_true | exact absurd hb.symm Bool.false_ne_true | refine W.seq ?_ | refine W.block ?_ | (refine rg [] ?_; intro K hK) | (refine dr [] ?_; intro K hK) | refine oq ?_ | refine sk ?_ | (refine nk hK ?_; clear hK K) | (refine nd hK ?_; clear hK K) | refine sp ?_ | refine ex ?_ | (refine gs (fun hb => ?_) (fun hb => ?_) <;> replace hb := nb hb <;> try exact noB hb) | (refine cd (fun hb => ?_) (fun hb => ?_) <;> replace hb := nb hb <;> try exact noB hb) | (with_reducible refine Exists.intro _ (And.intro rfl ?_)) | ((with_reducible refine And.intro ?_ ?_); (focus exact sdA)) | fail)
    all_goals (refine rt ?_; refine fin ?_; exact wqA)
def StS.zero : StS := ⟨0, 0, 0, 0, []⟩
/-- Does a record follow? -/
def nextOK (b : BookS) (s : StS) (r : RecS) : Prop := rightS b s ∧ 0 ≤ s.step ∧ r.may ∧ r.vis = s.visit ∧ ((r.kind = 2 ∧ intOK b s r) ∨ (r.kind = 3 ∧ outOK b s r))
instance (b : BookS) (s : StS) (r : RecS) : Decidable (nextOK b s r) := by unfold nextOK; exact inferInstance
/-- The state behind it. -/
def nextT (b : BookS) (s : StS) (r : RecS) : StS := if r.kind = 2 then s.tried else s.went b r
def nextS (b : BookS) (s : StS) (r : RecS) : StS := if nextOK b s r then nextT b s r else StS.zero
theorem right_vars {b : BookS} {s : StS} (hb : b.ok) (h : rightS b s) : s.vars.length ≤ 20 ∧ shortB s.vars = true := by
  unfold BookS.ok at hb
  unfold rightS at h
  exact ⟨by omega, h.2.2.2.2.2.2.1⟩
theorem right_tries {b : BookS} {s : StS} (hb : b.ok) (h : rightS b s) (h0 : 0 ≤ s.step) : (0 ≤ s.step ∧ s.step < b.steps.length) ∧ (-1000 ≤ s.tries ∧ s.tries ≤ 2000000) ∧ s.visit ≤ b.most ∧ 1 ≤ s.visit := by
  have := b.ok_at hb s.step
  unfold rightS at h
  rw [if_neg (by omega)] at h
  omega
/-- A state whose texts lie in a row of its own, as data. -/
theorem hd_data {g : FuncId} {args : List V} {s : StS} {x : V} (hx : x.lt 0 = true) (h : Fn Try.prog g args [] (.tup [.agg [i64 s.step, i64 s.visit, i64 s.tries, i64 s.off, .hd 0 1 s.vars.length], x]) [.grw 33 1 1 s.vars.length (rowT s.vars)]) : Fn Try.prog g args [] (.tup [s.v, x]) [] := by
  refine h.frzV (by decide) (elems_map (s.vars.map dtext)) (by simp) (.tup (.cons (.agg (.cons (.wk .rfl) (.cons (.wk .rfl) (.cons (.wk .rfl) (.cons (.wk .rfl) (.cons .hd .nil)))))) (.cons (.wk .rfl) .nil))) ?_
  show (true && (x.lt 0 && true)) = true
  rw [hx]
  rfl
set_option maxHeartbeats 4000000 in
theorem next_fn2 (b : BookS) (s : StS) (r : RecS) (hb : b.ok) (hr : rightS b s) (h0 : 0 ≤ s.step) (hm : r.may) (hv : r.vis = s.visit) (hk : r.kind = 2) : Fn Try.prog 20 [b.v, s.v, r.v] [] (if intOK b s r then .tup [s.tried.v, i64 0] else .tup [StS.zero.v, i64 7]) [] := by
  obtain ⟨l1, l2⟩ := right_vars hb hr
  obtain ⟨l3, l4, l5, l6⟩ := right_tries hb hr h0
  have c1 := right_fn b s hb
  have c2 := may_fn r
  have c3 := copied_fn s (by omega) l2
  rw [decide_eq_true hr] at c1
  rw [decide_eq_true hm] at c2
  by_cases hi : intOK b s r
  · rw [if_pos hi]
    refine hd_data rfl ?_
    have c4 := intent_ok b s r l3 l4 hi
    clear hm hi hr hb
    obtain ⟨kk, _, _, _, _, _, _, _, _, _, _, _, _⟩ := r
    simp only at hk hv
    subst hk
    refine en Try.func20 (hfr := by (simp only [Try.ntmps20, go_sem, Nat.reduceSub, Nat.reduceAdd]; rfl)) ?_
    refine W.ent (Ent.more 1) ?_
    repeat' (first | exact absurd hb Bool.false_ne_true | exact absurd hb.symm Bool.false_ne_true | refine W.seq ?_ | refine W.block ?_ | (refine rgx [4] [] ?_; intro K hK) | (refine drx [4] [] ?_; intro K hK) | refine cl (c1) ?_ | refine cl (c2) ?_ | refine cle [0] 1 (c3) ?_ | refine oq ?_ | refine sk ?_ | (refine nk hK ?_; clear hK K) | (refine nd hK ?_; clear hK K) | refine sp ?_ | refine ex ?_ | (refine gs (fun hb => ?_) (fun hb => ?_) <;> replace hb := nb hb <;> try exact noB hb) | (refine cd (fun hb => ?_) (fun hb => ?_) <;> replace hb := nb hb <;> try exact noB hb) | (with_reducible refine Exists.intro _ (And.intro rfl ?_)) | ((with_reducible refine And.intro ?_ ?_); (focus exact sdA)) | fail)
    refine W.ent (Ent.more 1) ?_
    repeat' (first | exact absurd hb Bool.false_ne_true | exact absurd hb.symm Bool.false_ne_true | refine W.seq ?_ | refine W.block ?_ | (refine rg [] ?_; intro K hK) | (refine dr [] ?_; intro K hK) | refine cle [6] 1 (kinds_fn) ?_ | refine cle [5, 0] 0 (c4) ?_ | refine oq ?_ | refine sk ?_ | (refine nk hK ?_; clear hK K) | (refine nd hK ?_; clear hK K) | refine sp ?_ | refine ex ?_ | (refine gs (fun hb => ?_) (fun hb => ?_) <;> replace hb := nb hb <;> try exact noB hb) | (refine cd (fun hb => ?_) (fun hb => ?_) <;> replace hb := nb hb <;> try exact noB hb) | (with_reducible refine Exists.intro _ (And.intro rfl ?_)) | ((with_reducible refine And.intro ?_ ?_); (focus exact sdA)) | fail)
    all_goals (refine rt ?_; refine fin ?_; exact wqA)
  · rw [if_neg hi]
    have c4 := intent_no b s r l3 hi
    clear hm hi hr hb
    obtain ⟨kk, _, _, _, _, _, _, _, _, _, _, _, _⟩ := r
    simp only at hk hv
    subst hk
    refine en Try.func20 (hfr := by (simp only [Try.ntmps20, go_sem, Nat.reduceSub, Nat.reduceAdd]; rfl)) ?_
    refine W.ent (Ent.more 1) ?_
    repeat' (first | exact absurd hb Bool.false_ne_true | exact absurd hb.symm Bool.false_ne_true | refine W.seq ?_ | refine W.block ?_ | (refine rgx [4] [] ?_; intro K hK) | (refine drx [4] [] ?_; intro K hK) | refine cl (c1) ?_ | refine cl (c2) ?_ | refine cle [0] 1 (c3) ?_ | refine oq ?_ | refine sk ?_ | (refine nk hK ?_; clear hK K) | (refine nd hK ?_; clear hK K) | refine sp ?_ | refine ex ?_ | (refine gs (fun hb => ?_) (fun hb => ?_) <;> replace hb := nb hb <;> try exact noB hb) | (refine cd (fun hb => ?_) (fun hb => ?_) <;> replace hb := nb hb <;> try exact noB hb) | (with_reducible refine Exists.intro _ (And.intro rfl ?_)) | ((with_reducible refine And.intro ?_ ?_); (focus exact sdA)) | fail)
    refine W.ent (Ent.more 1) ?_
    repeat' (first | exact absurd hb Bool.false_ne_true | exact absurd hb.symm Bool.false_ne_true | refine W.seq ?_ | refine W.block ?_ | (refine rg [] ?_; intro K hK) | (refine dr [] ?_; intro K hK) | refine cle [6] 1 (kinds_fn) ?_ | refine cle [5, 0] 0 (c4) ?_ | refine oq ?_ | refine sk ?_ | (refine nk hK ?_; clear hK K) | (refine nd hK ?_; clear hK K) | refine sp ?_ | refine ex ?_ | (refine gs (fun hb => ?_) (fun hb => ?_) <;> replace hb := nb hb <;> try exact noB hb) | (refine cd (fun hb => ?_) (fun hb => ?_) <;> replace hb := nb hb <;> try exact noB hb) | (with_reducible refine Exists.intro _ (And.intro rfl ?_)) | ((with_reducible refine And.intro ?_ ?_); (focus exact sdA)) | fail)
    all_goals (refine rt ?_; refine fin ?_; exact wqA)
set_option maxHeartbeats 4000000 in
theorem next_fn3 (b : BookS) (s : StS) (r : RecS) (hb : b.ok) (hr : rightS b s) (h0 : 0 ≤ s.step) (hm : r.may) (hv : r.vis = s.visit) (hk : r.kind = 3) : Fn Try.prog 20 [b.v, s.v, r.v] [] (if outOK b s r then .tup [(s.went b r).v, i64 0] else .tup [StS.zero.v, i64 7]) [] := by
  obtain ⟨l1, l2⟩ := right_vars hb hr
  obtain ⟨l3, l4, l5, l6⟩ := right_tries hb hr h0
  have c1 := right_fn b s hb
  have c2 := may_fn r
  have c3 := copied_fn s (by omega) l2
  rw [decide_eq_true hr] at c1
  rw [decide_eq_true hm] at c2
  have m3 : r.may3 := by
    unfold RecS.may at hm
    rcases hm with h | h | h
    · exact absurd h.1 (by omega)
    · exact absurd h.1 (by omega)
    · exact h.2
  have c4 := outcome_fn b s r l3 hb l5 l6 m3.2.2.2.2.2.1.1 m3.2.2.2.2.2.2.1
  by_cases hi : outOK b s r
  · rw [if_pos hi]
    refine hd_data rfl ?_
    rw [decide_eq_true hi, if_pos hi] at c4
    clear hm hi hr hb m3
    obtain ⟨kk, _, _, _, _, _, _, _, _, _, _, _, _⟩ := r
    simp only at hk hv
    subst hk
    refine en Try.func20 (hfr := by (simp only [Try.ntmps20, go_sem, Nat.reduceSub, Nat.reduceAdd]; rfl)) ?_
    refine W.ent (Ent.more 1) ?_
    repeat' (first | exact absurd hb Bool.false_ne_true | exact absurd hb.symm Bool.false_ne_true | refine W.seq ?_ | refine W.block ?_ | (refine rgx [4] [] ?_; intro K hK) | (refine drx [4] [] ?_; intro K hK) | refine cl (c1) ?_ | refine cl (c2) ?_ | refine cle [0] 1 (c3) ?_ | refine oq ?_ | refine sk ?_ | (refine nk hK ?_; clear hK K) | (refine nd hK ?_; clear hK K) | refine sp ?_ | refine ex ?_ | (refine gs (fun hb => ?_) (fun hb => ?_) <;> replace hb := nb hb <;> try exact noB hb) | (refine cd (fun hb => ?_) (fun hb => ?_) <;> replace hb := nb hb <;> try exact noB hb) | (with_reducible refine Exists.intro _ (And.intro rfl ?_)) | ((with_reducible refine And.intro ?_ ?_); (focus exact sdA)) | fail)
    refine W.ent (Ent.more 1) ?_
    repeat' (first | exact absurd hb Bool.false_ne_true | exact absurd hb.symm Bool.false_ne_true | refine W.seq ?_ | refine W.block ?_ | (refine rg [] ?_; intro K hK) | (refine dr [] ?_; intro K hK) | refine cle [6] 1 (kinds_fn) ?_ | refine cle [5, 0] 0 (c4) ?_ | refine oq ?_ | refine sk ?_ | (refine nk hK ?_; clear hK K) | (refine nd hK ?_; clear hK K) | refine sp ?_ | refine ex ?_ | (refine gs (fun hb => ?_) (fun hb => ?_) <;> replace hb := nb hb <;> try exact noB hb) | (refine cd (fun hb => ?_) (fun hb => ?_) <;> replace hb := nb hb <;> try exact noB hb) | (with_reducible refine Exists.intro _ (And.intro rfl ?_)) | ((with_reducible refine And.intro ?_ ?_); (focus exact sdA)) | fail)
    all_goals (refine rt ?_; refine fin ?_; exact wqA)
  · rw [if_neg hi]
    rw [decide_eq_false hi, if_neg hi] at c4
    clear hm hi hr hb m3
    obtain ⟨kk, _, _, _, _, _, _, _, _, _, _, _, _⟩ := r
    simp only at hk hv
    subst hk
    refine en Try.func20 (hfr := by (simp only [Try.ntmps20, go_sem, Nat.reduceSub, Nat.reduceAdd]; rfl)) ?_
    refine W.ent (Ent.more 1) ?_
    repeat' (first | exact absurd hb Bool.false_ne_true | exact absurd hb.symm Bool.false_ne_true | refine W.seq ?_ | refine W.block ?_ | (refine rgx [4] [] ?_; intro K hK) | (refine drx [4] [] ?_; intro K hK) | refine cl (c1) ?_ | refine cl (c2) ?_ | refine cle [0] 1 (c3) ?_ | refine oq ?_ | refine sk ?_ | (refine nk hK ?_; clear hK K) | (refine nd hK ?_; clear hK K) | refine sp ?_ | refine ex ?_ | (refine gs (fun hb => ?_) (fun hb => ?_) <;> replace hb := nb hb <;> try exact noB hb) | (refine cd (fun hb => ?_) (fun hb => ?_) <;> replace hb := nb hb <;> try exact noB hb) | (with_reducible refine Exists.intro _ (And.intro rfl ?_)) | ((with_reducible refine And.intro ?_ ?_); (focus exact sdA)) | fail)
    refine W.ent (Ent.more 1) ?_
    repeat' (first | exact absurd hb Bool.false_ne_true | exact absurd hb.symm Bool.false_ne_true | refine W.seq ?_ | refine W.block ?_ | (refine rg [] ?_; intro K hK) | (refine dr [] ?_; intro K hK) | refine cle [6] 1 (kinds_fn) ?_ | refine cle [5, 0] 0 (c4) ?_ | refine oq ?_ | refine sk ?_ | (refine nk hK ?_; clear hK K) | (refine nd hK ?_; clear hK K) | refine sp ?_ | refine ex ?_ | (refine gs (fun hb => ?_) (fun hb => ?_) <;> replace hb := nb hb <;> try exact noB hb) | (refine cd (fun hb => ?_) (fun hb => ?_) <;> replace hb := nb hb <;> try exact noB hb) | (with_reducible refine Exists.intro _ (And.intro rfl ?_)) | ((with_reducible refine And.intro ?_ ?_); (focus exact sdA)) | fail)
    all_goals (refine rt ?_; refine fin ?_; exact wqA)
set_option maxHeartbeats 4000000 in
theorem next_fn1 (b : BookS) (s : StS) (r : RecS) (hb : b.ok) (hr : rightS b s) (h0 : 0 ≤ s.step) (hm : r.may) (hv : r.vis = s.visit) (hk : r.kind = 1) : Fn Try.prog 20 [b.v, s.v, r.v] [] (.tup [StS.zero.v, i64 7]) [] := by
  obtain ⟨l1, l2⟩ := right_vars hb hr
  have c1 := right_fn b s hb
  have c2 := may_fn r
  have c3 := copied_fn s (by omega) l2
  rw [decide_eq_true hr] at c1
  rw [decide_eq_true hm] at c2
  clear hm hr hb
  obtain ⟨kk, _, _, _, _, _, _, _, _, _, _, _, _⟩ := r
  simp only at hk hv
  subst hk
  refine en Try.func20 (hfr := by (simp only [Try.ntmps20, go_sem, Nat.reduceSub, Nat.reduceAdd]; rfl)) ?_
  refine W.ent (Ent.more 1) ?_
  repeat' (first | exact absurd hb Bool.false_ne_true | exact absurd hb.symm Bool.false_ne_true | refine W.seq ?_ | refine W.block ?_ | (refine rgx [4] [] ?_; intro K hK) | (refine drx [4] [] ?_; intro K hK) | refine cl (c1) ?_ | refine cl (c2) ?_ | refine cle [0] 1 (c3) ?_ | refine oq ?_ | refine sk ?_ | (refine nk hK ?_; clear hK K) | (refine nd hK ?_; clear hK K) | refine sp ?_ | refine ex ?_ | (refine gs (fun hb => ?_) (fun hb => ?_) <;> replace hb := nb hb <;> try exact noB hb) | (refine cd (fun hb => ?_) (fun hb => ?_) <;> replace hb := nb hb <;> try exact noB hb) | (with_reducible refine Exists.intro _ (And.intro rfl ?_)) | ((with_reducible refine And.intro ?_ ?_); (focus exact sdA)) | fail)
  refine W.ent (Ent.more 1) ?_
  repeat' (first | exact absurd hb Bool.false_ne_true | exact absurd hb.symm Bool.false_ne_true | refine W.seq ?_ | refine W.block ?_ | (refine rg [] ?_; intro K hK) | (refine dr [] ?_; intro K hK) | refine cle [6] 1 (kinds_fn) ?_ | refine oq ?_ | refine sk ?_ | (refine nk hK ?_; clear hK K) | (refine nd hK ?_; clear hK K) | refine sp ?_ | refine ex ?_ | (refine gs (fun hb => ?_) (fun hb => ?_) <;> replace hb := nb hb <;> try exact noB hb) | (refine cd (fun hb => ?_) (fun hb => ?_) <;> replace hb := nb hb <;> try exact noB hb) | (with_reducible refine Exists.intro _ (And.intro rfl ?_)) | ((with_reducible refine And.intro ?_ ?_); (focus exact sdA)) | fail)
  all_goals (refine rt ?_; refine fin ?_; exact wqA)
set_option maxHeartbeats 4000000 in
theorem next_fn0 (b : BookS) (s : StS) (r : RecS) (hb : b.ok) (h : ¬ (rightS b s ∧ 0 ≤ s.step ∧ r.may ∧ r.vis = s.visit)) : Fn Try.prog 20 [b.v, s.v, r.v] [] (.tup [StS.zero.v, i64 7]) [] := by
  have c1 := right_fn b s hb
  have c2 := may_fn r
  by_cases hr : rightS b s
  · rw [decide_eq_true hr] at c1
    by_cases h0 : 0 ≤ s.step
    · by_cases hm : r.may
      · rw [decide_eq_true hm] at c2
        have hv : ¬ r.vis = s.visit := fun hv => h ⟨hr, h0, hm, hv⟩
        refine en Try.func20 (hfr := by (simp only [Try.ntmps20, go_sem, Nat.reduceSub, Nat.reduceAdd]; rfl)) ?_
        repeat' (first | exact absurd hb Bool.false_ne_true | exact absurd hb.symm Bool.false_ne_true | refine W.seq ?_ | refine W.block ?_ | (refine rg [] ?_; intro K hK) | (refine dr [] ?_; intro K hK) | refine cl (c1) ?_ | refine cl (c2) ?_ | refine oq ?_ | refine sk ?_ | (refine nk hK ?_; clear hK K) | (refine nd hK ?_; clear hK K) | refine sp ?_ | refine ex ?_ | (refine gs (fun hb => ?_) (fun hb => ?_) <;> replace hb := nb hb <;> try exact noB hb) | (refine cd (fun hb => ?_) (fun hb => ?_) <;> replace hb := nb hb <;> try exact noB hb) | (with_reducible refine Exists.intro _ (And.intro rfl ?_)) | ((with_reducible refine And.intro ?_ ?_); (focus exact sdA)) | fail)
        all_goals (refine rt ?_; refine fin ?_; exact wqA)
      · rw [decide_eq_false hm] at c2
        refine en Try.func20 (hfr := by (simp only [Try.ntmps20, go_sem, Nat.reduceSub, Nat.reduceAdd]; rfl)) ?_
        repeat' (first | exact absurd hb Bool.false_ne_true | exact absurd hb.symm Bool.false_ne_true | refine W.seq ?_ | refine W.block ?_ | (refine rg [] ?_; intro K hK) | (refine dr [] ?_; intro K hK) | refine cl (c1) ?_ | refine cl (c2) ?_ | refine oq ?_ | refine sk ?_ | (refine nk hK ?_; clear hK K) | (refine nd hK ?_; clear hK K) | refine sp ?_ | refine ex ?_ | (refine gs (fun hb => ?_) (fun hb => ?_) <;> replace hb := nb hb <;> try exact noB hb) | (refine cd (fun hb => ?_) (fun hb => ?_) <;> replace hb := nb hb <;> try exact noB hb) | (with_reducible refine Exists.intro _ (And.intro rfl ?_)) | ((with_reducible refine And.intro ?_ ?_); (focus exact sdA)) | fail)
        all_goals (refine rt ?_; refine fin ?_; exact wqA)
    · skip
      refine en Try.func20 (hfr := by (simp only [Try.ntmps20, go_sem, Nat.reduceSub, Nat.reduceAdd]; rfl)) ?_
      repeat' (first | exact absurd hb Bool.false_ne_true | exact absurd hb.symm Bool.false_ne_true | refine W.seq ?_ | refine W.block ?_ | (refine rg [] ?_; intro K hK) | (refine dr [] ?_; intro K hK) | refine cl (c1) ?_ | refine cl (c2) ?_ | refine oq ?_ | refine sk ?_ | (refine nk hK ?_; clear hK K) | (refine nd hK ?_; clear hK K) | refine sp ?_ | refine ex ?_ | (refine gs (fun hb => ?_) (fun hb => ?_) <;> replace hb := nb hb <;> try exact noB hb) | (refine cd (fun hb => ?_) (fun hb => ?_) <;> replace hb := nb hb <;> try exact noB hb) | (with_reducible refine Exists.intro _ (And.intro rfl ?_)) | ((with_reducible refine And.intro ?_ ?_); (focus exact sdA)) | fail)
      all_goals (refine rt ?_; refine fin ?_; exact wqA)
  · rw [decide_eq_false hr] at c1
    refine en Try.func20 (hfr := by (simp only [Try.ntmps20, go_sem, Nat.reduceSub, Nat.reduceAdd]; rfl)) ?_
    repeat' (first | exact absurd hb Bool.false_ne_true | exact absurd hb.symm Bool.false_ne_true | refine W.seq ?_ | refine W.block ?_ | (refine rg [] ?_; intro K hK) | (refine dr [] ?_; intro K hK) | refine cl (c1) ?_ | refine cl (c2) ?_ | refine oq ?_ | refine sk ?_ | (refine nk hK ?_; clear hK K) | (refine nd hK ?_; clear hK K) | refine sp ?_ | refine ex ?_ | (refine gs (fun hb => ?_) (fun hb => ?_) <;> replace hb := nb hb <;> try exact noB hb) | (refine cd (fun hb => ?_) (fun hb => ?_) <;> replace hb := nb hb <;> try exact noB hb) | (with_reducible refine Exists.intro _ (And.intro rfl ?_)) | ((with_reducible refine And.intro ?_ ?_); (focus exact sdA)) | fail)
    all_goals (refine rt ?_; refine fin ?_; exact wqA)
theorem next_fn (b : BookS) (s : StS) (r : RecS) (hb : b.ok) : Fn Try.prog 20 [b.v, s.v, r.v] [] (.tup [(nextS b s r).v, i64 (if nextOK b s r then 0 else 7)]) [] := by
  unfold nextS
  by_cases h : rightS b s ∧ 0 ≤ s.step ∧ r.may ∧ r.vis = s.visit
  · obtain ⟨hr, h0, hm, hv⟩ := h
    have hk : r.kind = 1 ∨ r.kind = 2 ∨ r.kind = 3 := by unfold RecS.may at hm; omega
    rcases hk with hk | hk | hk
    · have hn : ¬ nextOK b s r := fun h => by have := h.2.2.2.2; omega
      rw [if_neg hn, if_neg hn]
      exact next_fn1 b s r hb hr h0 hm hv hk
    · have hn : nextOK b s r ↔ intOK b s r := ⟨fun h => by rcases h.2.2.2.2 with h | h; exact h.2; omega, fun h => ⟨hr, h0, hm, hv, .inl ⟨hk, h⟩⟩⟩
      have c := next_fn2 b s r hb hr h0 hm hv hk
      by_cases hi : intOK b s r
      · rw [if_pos (hn.2 hi), if_pos (hn.2 hi)]
        rw [if_pos hi] at c
        unfold nextT
        rw [if_pos hk]
        exact c
      · rw [if_neg (fun h => hi (hn.1 h)), if_neg (fun h => hi (hn.1 h))]
        rw [if_neg hi] at c
        exact c
    · have hn : nextOK b s r ↔ outOK b s r := ⟨fun h => by rcases h.2.2.2.2 with h | h; omega; exact h.2, fun h => ⟨hr, h0, hm, hv, .inr ⟨hk, h⟩⟩⟩
      have c := next_fn3 b s r hb hr h0 hm hv hk
      by_cases hi : outOK b s r
      · rw [if_pos (hn.2 hi), if_pos (hn.2 hi)]
        rw [if_pos hi] at c
        unfold nextT
        rw [if_neg (by omega)]
        exact c
      · rw [if_neg (fun h => hi (hn.1 h)), if_neg (fun h => hi (hn.1 h))]
        rw [if_neg hi] at c
        exact c
  · have hn : ¬ nextOK b s r := fun k => h ⟨k.1, k.2.1, k.2.2.1, k.2.2.2.1⟩
    rw [if_neg hn, if_neg hn]
    exact next_fn0 b s r hb h
/-- The texts, one turned. -/
def goV (l : List (List UInt8)) (v : Int) (x : List UInt8) (i : Nat) : List (List UInt8) := (if 0 ≤ v then l.set v.toNat x else l).take i
theorem goV_len (l : List (List UInt8)) (v : Int) (x : List UInt8) (i : Nat) (h : i ≤ l.length) : (goV l v x i).length = i := by
  unfold goV
  rw [List.length_take]
  split
  · rw [List.length_set]; omega
  · omega
theorem goV_here (l : List (List UInt8)) (v : Int) (x : List UInt8) (i : Nat) (h : i < l.length) (hv : (i : Int) = v) : (goV l v x i).map dtext ++ [dtext x] = (goV l v x (i + 1)).map dtext := by
  unfold goV
  rw [if_pos (by omega), show v.toNat = i by omega, List.take_add_one, List.map_append]
  congr 1
  rw [List.getElem?_set_self h]
  rfl
theorem goV_there (l : List (List UInt8)) (v : Int) (x : List UInt8) (i : Nat) (h : i < l.length) (hv : ¬ (i : Int) = v) : (goV l v x i).map dtext ++ [dtext (l.getD i [])] = (goV l v x (i + 1)).map dtext := by
  unfold goV
  rw [List.take_add_one, List.map_append]
  congr 1
  split
  · rw [List.getElem?_set_ne (by omega), gdS h []]
    rfl
  · rw [gdS h []]
    rfl
theorem goV_0 (l : List (List UInt8)) (v : Int) (x : List UInt8) (c : Nat) : vcell (goV l v x 0) c = .nil := by
  unfold vcell
  rw [if_pos (by simp [goV])]
theorem goVc_0 (l : List (List UInt8)) (v : Int) (x : List UInt8) : vcap (goV l v x 0) = .fresh := by
  unfold vcap
  rw [if_pos (by simp [goV])]
theorem goV_s (l : List (List UInt8)) (v : Int) (x : List UInt8) (c i : Nat) (h : i < l.length) : vcell (goV l v x (i + 1)) c = .own 1 ((goV l v x (i + 1)).map dtext) c := by
  unfold vcell
  rw [if_neg (by rw [goV_len _ _ _ _ (by omega)]; omega)]
theorem goVc_s (l : List (List UInt8)) (v : Int) (x : List UInt8) (i : Nat) (h : i < l.length) : vcap (goV l v x (i + 1)) = .cap 33 1 (i + 1) := by
  unfold vcap
  rw [if_neg (by rw [goV_len _ _ _ _ (by omega)]; omega), goV_len _ _ _ _ (by omega)]
theorem goV_end (l : List (List UInt8)) (v : Int) (x : List UInt8) (i : Nat) (h : i = l.length) : (if 0 ≤ v then l.set v.toNat x else l) = goV l v x i := by
  unfold goV
  rw [List.take_of_length_le]
  split
  · rw [List.length_set]; omega
  · omega
set_option maxHeartbeats 8000000 in
theorem xgo_fn (b : BookS) (s : StS) (to ofs v : Int) (x : List UInt8) (hm : b.most ≤ 1000000) (hvis : s.visit ≤ b.most ∧ 1 ≤ s.visit) (hl : s.vars.length ≤ 20) : Fn Try.prog 143 [b.v, s.v, i64 to, i64 ofs, i64 v, bytes x] [] (.agg [i64 (if 0 ≤ to ∧ b.most ≤ s.visit then -2 else to), i64 (s.visit + 1), i64 0, i64 ofs, texts (if 0 ≤ v then s.vars.set v.toNat x else s.vars)]) [] := by
  by_cases g1 : 0 ≤ to ∧ b.most ≤ s.visit
  · rw [if_pos g1]
    refine en Try.func143 (hfr := by (simp only [Try.ntmps143, go_sem, Nat.reduceSub, Nat.reduceAdd]; rfl)) ?_
    repeat' (first | exact absurd hb Bool.false_ne_true | exact absurd hb.symm Bool.false_ne_true | refine W.seq ?_ | refine W.block ?_ | (refine rgx [4] [] ?_; intro K hK) | (refine drx [4] [] ?_; intro K hK) | refine oq ?_ | refine sk ?_ | (refine nk hK ?_; clear hK K) | (refine nd hK ?_; clear hK K) | refine sp ?_ | refine ex ?_ | (refine gs (fun hb => ?_) (fun hb => ?_) <;> replace hb := nb hb <;> try exact noB hb) | (refine cd (fun hb => ?_) (fun hb => ?_) <;> replace hb := nb hb <;> try exact noB hb) | (with_reducible refine Exists.intro _ (And.intro rfl ?_)) | ((with_reducible refine And.intro ?_ ?_); (focus exact sdA)) | fail)
    refine W.ent (Ent.more 1) ?_
    repeat' (first | exact absurd hb Bool.false_ne_true | exact absurd hb.symm Bool.false_ne_true | refine W.seq ?_ | refine W.block ?_ | (refine rgx [5] [] ?_; intro K hK) | (refine drx [5] [] ?_; intro K hK) | refine oq ?_ | refine sk ?_ | (refine nk hK ?_; clear hK K) | (refine nd hK ?_; clear hK K) | refine sp ?_ | refine ex ?_ | (refine gs (fun hb => ?_) (fun hb => ?_) <;> replace hb := nb hb <;> try exact noB hb) | (refine cd (fun hb => ?_) (fun hb => ?_) <;> replace hb := nb hb <;> try exact noB hb) | (with_reducible refine Exists.intro _ (And.intro rfl ?_)) | ((with_reducible refine And.intro ?_ ?_); (focus exact sdA)) | fail)
    refine W.lp (ι := Nat) (fun i => (ay 4 (i64 v :: bytes x :: ay 1 (.ptr 1 0 :: ay 4 (.ptr 2 0 :: .ptr 3 0 :: i64 i :: ay 43 []))))) (fun i => [.cells 25 b.cells, .cells 31 s.cells, .cells 31 [i64 0, i64 0, i64 0, i64 0, .nil], .cells 31 [i64 (-2), i64 (s.visit + 1), i64 0, i64 ofs, vcell (goV s.vars v x i) 4], vcap (goV s.vars v x i)]) (fun i => i ≤ s.vars.length) (fun i => s.vars.length - i) 0 (Nat.zero_le _) (Ent.to ?_ ?_) ?_
    · skip
      exact wkA
    · rw [goV_0, goVc_0]
    · intro i hi
      obtain rfl | ⟨j, rfl⟩ : i = 0 ∨ ∃ j, i = j + 1 := by cases i with | zero => exact .inl rfl | succ j => exact .inr ⟨j, rfl⟩
      · rw [goV_0, goVc_0]
        repeat' (first | exact absurd hb Bool.false_ne_true | exact absurd hb.symm Bool.false_ne_true | refine W.seq ?_ | refine W.block ?_ | (refine rg [] ?_; intro K hK) | (refine dr [] ?_; intro K hK) | refine oq ?_ | refine sk ?_ | (refine nk hK ?_; clear hK K) | (refine nd hK ?_; clear hK K) | refine sp ?_ | refine ex ?_ | (refine gs (fun hb => ?_) (fun hb => ?_) <;> replace hb := nb hb <;> try exact noB hb) | (refine cd (fun hb => ?_) (fun hb => ?_) <;> replace hb := nb hb <;> try exact noB hb) | (with_reducible refine Exists.intro _ (And.intro rfl ?_)) | ((with_reducible refine And.intro ?_ ?_); (focus exact sdA)) | fail)
        · have e : [dtext x] = (goV s.vars v x 1).map dtext := goV_here s.vars v x 0 (by omega) (by omega)
          rw [e]
          refine nx 1 (by omega) (by omega) ?_
          rw [goV_s _ _ _ _ 0 (by omega), goVc_s _ _ _ 0 (by omega)]
          refine sb [0, 1, 2, 3, 6] _ _ (hf := ?_)
          exact wkA
        · have e : [dtext (s.vars.getD 0 [])] = (goV s.vars v x 1).map dtext := goV_there s.vars v x 0 (by omega) (by omega)
          rw [e]
          refine nx 1 (by omega) (by omega) ?_
          rw [goV_s _ _ _ _ 0 (by omega), goVc_s _ _ _ 0 (by omega)]
          refine sb [0, 1, 2, 3, 6] _ _ (hf := ?_)
          exact wkA
        · rw [goV_end s.vars v x 0 (by omega)]
          all_goals (refine rt ?_; refine fin ?_; exact wqA)
      · have hlj := goV_len s.vars v x (j + 1) (by omega)
        rw [goV_s _ _ _ _ _ (by omega), goVc_s _ _ _ _ (by omega)]
        repeat' (first | exact absurd hb Bool.false_ne_true | exact absurd hb.symm Bool.false_ne_true | refine W.seq ?_ | refine W.block ?_ | (refine rg [] ?_; intro K hK) | (refine dr [] ?_; intro K hK) | refine oq ?_ | refine sk ?_ | (refine nk hK ?_; clear hK K) | (refine nd hK ?_; clear hK K) | refine sp ?_ | refine ex ?_ | (refine gs (fun hb => ?_) (fun hb => ?_) <;> replace hb := nb hb <;> try exact noB hb) | (refine cd (fun hb => ?_) (fun hb => ?_) <;> replace hb := nb hb <;> try exact noB hb) | (with_reducible refine Exists.intro _ (And.intro rfl ?_)) | ((with_reducible refine And.intro ?_ ?_); (focus exact sdA)) | fail)
        · rw [goV_here s.vars v x (j + 1) (by omega) (by omega)]
          refine nx (j + 1 + 1) (by omega) (by omega) ?_
          rw [goV_s _ _ _ _ (j + 1) (by omega), goVc_s _ _ _ (j + 1) (by omega)]
          refine sb [0, 1, 2, 3, 4] _ _ (hf := ?_)
          exact wkA
        · rw [goV_there s.vars v x (j + 1) (by omega) (by omega)]
          refine nx (j + 1 + 1) (by omega) (by omega) ?_
          rw [goV_s _ _ _ _ (j + 1) (by omega), goVc_s _ _ _ (j + 1) (by omega)]
          refine sb [0, 1, 2, 3, 4] _ _ (hf := ?_)
          exact wkA
        · rw [goV_end s.vars v x (j + 1) (by omega)]
          all_goals (refine rt ?_; refine fin ?_; exact wqA)
  · rw [if_neg g1]
    by_cases g0 : 0 ≤ to
    · skip
      refine en Try.func143 (hfr := by (simp only [Try.ntmps143, go_sem, Nat.reduceSub, Nat.reduceAdd]; rfl)) ?_
      repeat' (first | exact absurd hb Bool.false_ne_true | exact absurd hb.symm Bool.false_ne_true | refine W.seq ?_ | refine W.block ?_ | (refine rgx [4] [] ?_; intro K hK) | (refine drx [4] [] ?_; intro K hK) | refine oq ?_ | refine sk ?_ | (refine nk hK ?_; clear hK K) | (refine nd hK ?_; clear hK K) | refine sp ?_ | refine ex ?_ | (refine gs (fun hb => ?_) (fun hb => ?_) <;> replace hb := nb hb <;> try exact noB hb) | (refine cd (fun hb => ?_) (fun hb => ?_) <;> replace hb := nb hb <;> try exact noB hb) | (with_reducible refine Exists.intro _ (And.intro rfl ?_)) | ((with_reducible refine And.intro ?_ ?_); (focus exact sdA)) | fail)
      refine W.ent (Ent.more 1) ?_
      repeat' (first | exact absurd hb Bool.false_ne_true | exact absurd hb.symm Bool.false_ne_true | refine W.seq ?_ | refine W.block ?_ | (refine rgx [5] [] ?_; intro K hK) | (refine drx [5] [] ?_; intro K hK) | refine oq ?_ | refine sk ?_ | (refine nk hK ?_; clear hK K) | (refine nd hK ?_; clear hK K) | refine sp ?_ | refine ex ?_ | (refine gs (fun hb => ?_) (fun hb => ?_) <;> replace hb := nb hb <;> try exact noB hb) | (refine cd (fun hb => ?_) (fun hb => ?_) <;> replace hb := nb hb <;> try exact noB hb) | (with_reducible refine Exists.intro _ (And.intro rfl ?_)) | ((with_reducible refine And.intro ?_ ?_); (focus exact sdA)) | fail)
      refine W.lp (ι := Nat) (fun i => (ay 4 (i64 v :: bytes x :: ay 1 (.ptr 1 0 :: ay 4 (.ptr 2 0 :: .ptr 3 0 :: i64 i :: ay 43 []))))) (fun i => [.cells 25 b.cells, .cells 31 s.cells, .cells 31 [i64 0, i64 0, i64 0, i64 0, .nil], .cells 31 [i64 to, i64 (s.visit + 1), i64 0, i64 ofs, vcell (goV s.vars v x i) 4], vcap (goV s.vars v x i)]) (fun i => i ≤ s.vars.length) (fun i => s.vars.length - i) 0 (Nat.zero_le _) (Ent.to ?_ ?_) ?_
      · skip
        exact wkA
      · rw [goV_0, goVc_0]
      · intro i hi
        obtain rfl | ⟨j, rfl⟩ : i = 0 ∨ ∃ j, i = j + 1 := by cases i with | zero => exact .inl rfl | succ j => exact .inr ⟨j, rfl⟩
        · rw [goV_0, goVc_0]
          repeat' (first | exact absurd hb Bool.false_ne_true | exact absurd hb.symm Bool.false_ne_true | refine W.seq ?_ | refine W.block ?_ | (refine rg [] ?_; intro K hK) | (refine dr [] ?_; intro K hK) | refine oq ?_ | refine sk ?_ | (refine nk hK ?_; clear hK K) | (refine nd hK ?_; clear hK K) | refine sp ?_ | refine ex ?_ | (refine gs (fun hb => ?_) (fun hb => ?_) <;> replace hb := nb hb <;> try exact noB hb) | (refine cd (fun hb => ?_) (fun hb => ?_) <;> replace hb := nb hb <;> try exact noB hb) | (with_reducible refine Exists.intro _ (And.intro rfl ?_)) | ((with_reducible refine And.intro ?_ ?_); (focus exact sdA)) | fail)
          · have e : [dtext x] = (goV s.vars v x 1).map dtext := goV_here s.vars v x 0 (by omega) (by omega)
            rw [e]
            refine nx 1 (by omega) (by omega) ?_
            rw [goV_s _ _ _ _ 0 (by omega), goVc_s _ _ _ 0 (by omega)]
            refine sb [0, 1, 2, 3, 6] _ _ (hf := ?_)
            exact wkA
          · have e : [dtext (s.vars.getD 0 [])] = (goV s.vars v x 1).map dtext := goV_there s.vars v x 0 (by omega) (by omega)
            rw [e]
            refine nx 1 (by omega) (by omega) ?_
            rw [goV_s _ _ _ _ 0 (by omega), goVc_s _ _ _ 0 (by omega)]
            refine sb [0, 1, 2, 3, 6] _ _ (hf := ?_)
            exact wkA
          · rw [goV_end s.vars v x 0 (by omega)]
            all_goals (refine rt ?_; refine fin ?_; exact wqA)
        · have hlj := goV_len s.vars v x (j + 1) (by omega)
          rw [goV_s _ _ _ _ _ (by omega), goVc_s _ _ _ _ (by omega)]
          repeat' (first | exact absurd hb Bool.false_ne_true | exact absurd hb.symm Bool.false_ne_true | refine W.seq ?_ | refine W.block ?_ | (refine rg [] ?_; intro K hK) | (refine dr [] ?_; intro K hK) | refine oq ?_ | refine sk ?_ | (refine nk hK ?_; clear hK K) | (refine nd hK ?_; clear hK K) | refine sp ?_ | refine ex ?_ | (refine gs (fun hb => ?_) (fun hb => ?_) <;> replace hb := nb hb <;> try exact noB hb) | (refine cd (fun hb => ?_) (fun hb => ?_) <;> replace hb := nb hb <;> try exact noB hb) | (with_reducible refine Exists.intro _ (And.intro rfl ?_)) | ((with_reducible refine And.intro ?_ ?_); (focus exact sdA)) | fail)
          · rw [goV_here s.vars v x (j + 1) (by omega) (by omega)]
            refine nx (j + 1 + 1) (by omega) (by omega) ?_
            rw [goV_s _ _ _ _ (j + 1) (by omega), goVc_s _ _ _ (j + 1) (by omega)]
            refine sb [0, 1, 2, 3, 4] _ _ (hf := ?_)
            exact wkA
          · rw [goV_there s.vars v x (j + 1) (by omega) (by omega)]
            refine nx (j + 1 + 1) (by omega) (by omega) ?_
            rw [goV_s _ _ _ _ (j + 1) (by omega), goVc_s _ _ _ (j + 1) (by omega)]
            refine sb [0, 1, 2, 3, 4] _ _ (hf := ?_)
            exact wkA
          · rw [goV_end s.vars v x (j + 1) (by omega)]
            all_goals (refine rt ?_; refine fin ?_; exact wqA)
    · skip
      refine en Try.func143 (hfr := by (simp only [Try.ntmps143, go_sem, Nat.reduceSub, Nat.reduceAdd]; rfl)) ?_
      repeat' (first | exact absurd hb Bool.false_ne_true | exact absurd hb.symm Bool.false_ne_true | refine W.seq ?_ | refine W.block ?_ | (refine rgx [4] [] ?_; intro K hK) | (refine drx [4] [] ?_; intro K hK) | refine oq ?_ | refine sk ?_ | (refine nk hK ?_; clear hK K) | (refine nd hK ?_; clear hK K) | refine sp ?_ | refine ex ?_ | (refine gs (fun hb => ?_) (fun hb => ?_) <;> replace hb := nb hb <;> try exact noB hb) | (refine cd (fun hb => ?_) (fun hb => ?_) <;> replace hb := nb hb <;> try exact noB hb) | (with_reducible refine Exists.intro _ (And.intro rfl ?_)) | ((with_reducible refine And.intro ?_ ?_); (focus exact sdA)) | fail)
      refine W.ent (Ent.more 1) ?_
      repeat' (first | exact absurd hb Bool.false_ne_true | exact absurd hb.symm Bool.false_ne_true | refine W.seq ?_ | refine W.block ?_ | (refine rgx [5] [] ?_; intro K hK) | (refine drx [5] [] ?_; intro K hK) | refine oq ?_ | refine sk ?_ | (refine nk hK ?_; clear hK K) | (refine nd hK ?_; clear hK K) | refine sp ?_ | refine ex ?_ | (refine gs (fun hb => ?_) (fun hb => ?_) <;> replace hb := nb hb <;> try exact noB hb) | (refine cd (fun hb => ?_) (fun hb => ?_) <;> replace hb := nb hb <;> try exact noB hb) | (with_reducible refine Exists.intro _ (And.intro rfl ?_)) | ((with_reducible refine And.intro ?_ ?_); (focus exact sdA)) | fail)
      refine W.lp (ι := Nat) (fun i => (ay 4 (i64 v :: bytes x :: ay 1 (.ptr 1 0 :: ay 4 (.ptr 2 0 :: .ptr 3 0 :: i64 i :: ay 43 []))))) (fun i => [.cells 25 b.cells, .cells 31 s.cells, .cells 31 [i64 0, i64 0, i64 0, i64 0, .nil], .cells 31 [i64 to, i64 (s.visit + 1), i64 0, i64 ofs, vcell (goV s.vars v x i) 4], vcap (goV s.vars v x i)]) (fun i => i ≤ s.vars.length) (fun i => s.vars.length - i) 0 (Nat.zero_le _) (Ent.to ?_ ?_) ?_
      · skip
        exact wkA
      · rw [goV_0, goVc_0]
      · intro i hi
        obtain rfl | ⟨j, rfl⟩ : i = 0 ∨ ∃ j, i = j + 1 := by cases i with | zero => exact .inl rfl | succ j => exact .inr ⟨j, rfl⟩
        · rw [goV_0, goVc_0]
          repeat' (first | exact absurd hb Bool.false_ne_true | exact absurd hb.symm Bool.false_ne_true | refine W.seq ?_ | refine W.block ?_ | (refine rg [] ?_; intro K hK) | (refine dr [] ?_; intro K hK) | refine oq ?_ | refine sk ?_ | (refine nk hK ?_; clear hK K) | (refine nd hK ?_; clear hK K) | refine sp ?_ | refine ex ?_ | (refine gs (fun hb => ?_) (fun hb => ?_) <;> replace hb := nb hb <;> try exact noB hb) | (refine cd (fun hb => ?_) (fun hb => ?_) <;> replace hb := nb hb <;> try exact noB hb) | (with_reducible refine Exists.intro _ (And.intro rfl ?_)) | ((with_reducible refine And.intro ?_ ?_); (focus exact sdA)) | fail)
          · have e : [dtext x] = (goV s.vars v x 1).map dtext := goV_here s.vars v x 0 (by omega) (by omega)
            rw [e]
            refine nx 1 (by omega) (by omega) ?_
            rw [goV_s _ _ _ _ 0 (by omega), goVc_s _ _ _ 0 (by omega)]
            refine sb [0, 1, 2, 3, 6] _ _ (hf := ?_)
            exact wkA
          · have e : [dtext (s.vars.getD 0 [])] = (goV s.vars v x 1).map dtext := goV_there s.vars v x 0 (by omega) (by omega)
            rw [e]
            refine nx 1 (by omega) (by omega) ?_
            rw [goV_s _ _ _ _ 0 (by omega), goVc_s _ _ _ 0 (by omega)]
            refine sb [0, 1, 2, 3, 6] _ _ (hf := ?_)
            exact wkA
          · rw [goV_end s.vars v x 0 (by omega)]
            all_goals (refine rt ?_; refine fin ?_; exact wqA)
        · have hlj := goV_len s.vars v x (j + 1) (by omega)
          rw [goV_s _ _ _ _ _ (by omega), goVc_s _ _ _ _ (by omega)]
          repeat' (first | exact absurd hb Bool.false_ne_true | exact absurd hb.symm Bool.false_ne_true | refine W.seq ?_ | refine W.block ?_ | (refine rg [] ?_; intro K hK) | (refine dr [] ?_; intro K hK) | refine oq ?_ | refine sk ?_ | (refine nk hK ?_; clear hK K) | (refine nd hK ?_; clear hK K) | refine sp ?_ | refine ex ?_ | (refine gs (fun hb => ?_) (fun hb => ?_) <;> replace hb := nb hb <;> try exact noB hb) | (refine cd (fun hb => ?_) (fun hb => ?_) <;> replace hb := nb hb <;> try exact noB hb) | (with_reducible refine Exists.intro _ (And.intro rfl ?_)) | ((with_reducible refine And.intro ?_ ?_); (focus exact sdA)) | fail)
          · rw [goV_here s.vars v x (j + 1) (by omega) (by omega)]
            refine nx (j + 1 + 1) (by omega) (by omega) ?_
            rw [goV_s _ _ _ _ (j + 1) (by omega), goVc_s _ _ _ (j + 1) (by omega)]
            refine sb [0, 1, 2, 3, 4] _ _ (hf := ?_)
            exact wkA
          · rw [goV_there s.vars v x (j + 1) (by omega) (by omega)]
            refine nx (j + 1 + 1) (by omega) (by omega) ?_
            rw [goV_s _ _ _ _ (j + 1) (by omega), goVc_s _ _ _ (j + 1) (by omega)]
            refine sb [0, 1, 2, 3, 4] _ _ (hf := ?_)
            exact wkA
          · rw [goV_end s.vars v x (j + 1) (by omega)]
            all_goals (refine rt ?_; refine fin ?_; exact wqA)
end Go.Proofs.Ytpmbeldmclcjlaa.Vs
