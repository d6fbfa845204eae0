/- folding: the state behind a record, as the document says: all; folding: the state behind all records; folding: the state behind all records, as the document says; folding: small books, and what is known. -/
import Derived.Test.YtpmbeldmclcjlaaVfD
import Derived.Test.YtpmbeldmclcjlaaVrP
set_option linter.unusedVariables false
set_option linter.unusedSimpArgs false
namespace Go.Proofs.Ytpmbeldmclcjlaa.Vs
open Go.RowKit
set_option maxRecDepth 100000
set_option maxHeartbeats 4000000 in
theorem xnext_fn0 (b : BookS) (s : StS) (r : RecS) (hb : b.ok) (h : ¬ (rightS b s ∧ 0 ≤ s.step ∧ r.may ∧ r.vis = s.visit ∧ ¬ r.kind = 1)) : Fn Try.prog 98 [b.v, s.v, r.v] [] (.tup [StS.zero.v, bool false]) [] := by
  have c1 := xright_fn b s hb
  have c2 := xmay_fn r
  by_cases hr : rightS b s
  · rw [decide_eq_true hr] at c1
    by_cases hm : r.may
    · rw [decide_eq_true hm] at c2
      by_cases h0 : 0 ≤ s.step
      · by_cases hv : r.vis = s.visit
        · have hk : r.kind = 1 := Classical.byContradiction fun hk => h ⟨hr, h0, hm, hv, hk⟩
          refine en Try.func98 (hfr := by (simp only [Try.ntmps98, go_sem, Nat.reduceSub, Nat.reduceAdd]; rfl)) ?_
          repeat' (first | exact absurd hb Bool.false_ne_true | exact absurd hb.symm Bool.false_ne_true | refine W.seq ?_ | refine W.block ?_ | (refine rg [] ?_; intro K hK) | (refine dr [] ?_; intro K hK) | refine cl (c1) ?_ | refine cl (c2) ?_ | refine oq ?_ | refine sk ?_ | (refine nk hK ?_; clear hK K) | (refine nd hK ?_; clear hK K) | refine sp ?_ | refine ex ?_ | (refine gs (fun hb => ?_) (fun hb => ?_) <;> replace hb := nb hb <;> try exact noB hb) | (refine cd (fun hb => ?_) (fun hb => ?_) <;> replace hb := nb hb <;> try exact noB hb) | (with_reducible refine Exists.intro _ (And.intro rfl ?_)) | ((with_reducible refine And.intro ?_ ?_); (focus exact sdA)) | fail)
          all_goals (refine rt ?_; refine fin ?_; exact wqA)
        · skip
          refine en Try.func98 (hfr := by (simp only [Try.ntmps98, go_sem, Nat.reduceSub, Nat.reduceAdd]; rfl)) ?_
          repeat' (first | exact absurd hb Bool.false_ne_true | exact absurd hb.symm Bool.false_ne_true | refine W.seq ?_ | refine W.block ?_ | (refine rg [] ?_; intro K hK) | (refine dr [] ?_; intro K hK) | refine cl (c1) ?_ | refine cl (c2) ?_ | refine oq ?_ | refine sk ?_ | (refine nk hK ?_; clear hK K) | (refine nd hK ?_; clear hK K) | refine sp ?_ | refine ex ?_ | (refine gs (fun hb => ?_) (fun hb => ?_) <;> replace hb := nb hb <;> try exact noB hb) | (refine cd (fun hb => ?_) (fun hb => ?_) <;> replace hb := nb hb <;> try exact noB hb) | (with_reducible refine Exists.intro _ (And.intro rfl ?_)) | ((with_reducible refine And.intro ?_ ?_); (focus exact sdA)) | fail)
          all_goals (refine rt ?_; refine fin ?_; exact wqA)
      · skip
        refine en Try.func98 (hfr := by (simp only [Try.ntmps98, go_sem, Nat.reduceSub, Nat.reduceAdd]; rfl)) ?_
        repeat' (first | exact absurd hb Bool.false_ne_true | exact absurd hb.symm Bool.false_ne_true | refine W.seq ?_ | refine W.block ?_ | (refine rg [] ?_; intro K hK) | (refine dr [] ?_; intro K hK) | refine cl (c1) ?_ | refine cl (c2) ?_ | refine oq ?_ | refine sk ?_ | (refine nk hK ?_; clear hK K) | (refine nd hK ?_; clear hK K) | refine sp ?_ | refine ex ?_ | (refine gs (fun hb => ?_) (fun hb => ?_) <;> replace hb := nb hb <;> try exact noB hb) | (refine cd (fun hb => ?_) (fun hb => ?_) <;> replace hb := nb hb <;> try exact noB hb) | (with_reducible refine Exists.intro _ (And.intro rfl ?_)) | ((with_reducible refine And.intro ?_ ?_); (focus exact sdA)) | fail)
        all_goals (refine rt ?_; refine fin ?_; exact wqA)
    · rw [decide_eq_false hm] at c2
      refine en Try.func98 (hfr := by (simp only [Try.ntmps98, go_sem, Nat.reduceSub, Nat.reduceAdd]; rfl)) ?_
      repeat' (first | exact absurd hb Bool.false_ne_true | exact absurd hb.symm Bool.false_ne_true | refine W.seq ?_ | refine W.block ?_ | (refine rg [] ?_; intro K hK) | (refine dr [] ?_; intro K hK) | refine cl (c1) ?_ | refine cl (c2) ?_ | refine oq ?_ | refine sk ?_ | (refine nk hK ?_; clear hK K) | (refine nd hK ?_; clear hK K) | refine sp ?_ | refine ex ?_ | (refine gs (fun hb => ?_) (fun hb => ?_) <;> replace hb := nb hb <;> try exact noB hb) | (refine cd (fun hb => ?_) (fun hb => ?_) <;> replace hb := nb hb <;> try exact noB hb) | (with_reducible refine Exists.intro _ (And.intro rfl ?_)) | ((with_reducible refine And.intro ?_ ?_); (focus exact sdA)) | fail)
      all_goals (refine rt ?_; refine fin ?_; exact wqA)
  · rw [decide_eq_false hr] at c1
    refine en Try.func98 (hfr := by (simp only [Try.ntmps98, go_sem, Nat.reduceSub, Nat.reduceAdd]; rfl)) ?_
    repeat' (first | exact absurd hb Bool.false_ne_true | exact absurd hb.symm Bool.false_ne_true | refine W.seq ?_ | refine W.block ?_ | (refine rg [] ?_; intro K hK) | (refine dr [] ?_; intro K hK) | refine cl (c1) ?_ | refine cl (c2) ?_ | refine oq ?_ | refine sk ?_ | (refine nk hK ?_; clear hK K) | (refine nd hK ?_; clear hK K) | refine sp ?_ | refine ex ?_ | (refine gs (fun hb => ?_) (fun hb => ?_) <;> replace hb := nb hb <;> try exact noB hb) | (refine cd (fun hb => ?_) (fun hb => ?_) <;> replace hb := nb hb <;> try exact noB hb) | (with_reducible refine Exists.intro _ (And.intro rfl ?_)) | ((with_reducible refine And.intro ?_ ?_); (focus exact sdA)) | fail)
    all_goals (refine rt ?_; refine fin ?_; exact wqA)
set_option maxHeartbeats 4000000 in
theorem xnext_fn2 (b : BookS) (s : StS) (r : RecS) (hb : b.ok) (hr : rightS b s) (h0 : 0 ≤ s.step) (hm : r.may) (hv : r.vis = s.visit) (hk : r.kind = 2) : Fn Try.prog 98 [b.v, s.v, r.v] [] (if intOK b s r then .tup [s.tried.v, bool true] else .tup [StS.zero.v, bool false]) [] := by
  obtain ⟨l3, l4, l5, l6⟩ := right_tries hb hr h0
  have c1 := xright_fn b s hb
  have c2 := xmay_fn r
  rw [decide_eq_true hr] at c1
  rw [decide_eq_true hm] at c2
  by_cases hi : intOK b s r
  · rw [if_pos hi]
    have hi' := hi
    unfold intOK BookS.at at hi'
    refine en Try.func98 (hfr := by (simp only [Try.ntmps98, go_sem, Nat.reduceSub, Nat.reduceAdd]; rfl)) ?_
    repeat' (first | exact absurd hb Bool.false_ne_true | exact absurd hb.symm Bool.false_ne_true | refine W.seq ?_ | refine W.block ?_ | (refine rg [] ?_; intro K hK) | (refine dr [] ?_; intro K hK) | refine cl (c1) ?_ | refine cl (c2) ?_ | refine oq ?_ | refine sk ?_ | (refine nk hK ?_; clear hK K) | (refine nd hK ?_; clear hK K) | refine sp ?_ | refine ex ?_ | (refine gs (fun hb => ?_) (fun hb => ?_) <;> replace hb := nb hb <;> try exact noB hb) | (refine cd (fun hb => ?_) (fun hb => ?_) <;> replace hb := nb hb <;> try exact noB hb) | (with_reducible refine Exists.intro _ (And.intro rfl ?_)) | ((with_reducible refine And.intro ?_ ?_); (focus exact sdA)) | fail)
    all_goals first | (exfalso; omega) | (refine rt ?_; refine fin ?_; exact wqA)
  · rw [if_neg hi]
    have hi' := hi
    unfold intOK BookS.at at hi'
    refine en Try.func98 (hfr := by (simp only [Try.ntmps98, go_sem, Nat.reduceSub, Nat.reduceAdd]; rfl)) ?_
    repeat' (first | exact absurd hb Bool.false_ne_true | exact absurd hb.symm Bool.false_ne_true | refine W.seq ?_ | refine W.block ?_ | (refine rg [] ?_; intro K hK) | (refine dr [] ?_; intro K hK) | refine cl (c1) ?_ | refine cl (c2) ?_ | refine oq ?_ | refine sk ?_ | (refine nk hK ?_; clear hK K) | (refine nd hK ?_; clear hK K) | refine sp ?_ | refine ex ?_ | (refine gs (fun hb => ?_) (fun hb => ?_) <;> replace hb := nb hb <;> try exact noB hb) | (refine cd (fun hb => ?_) (fun hb => ?_) <;> replace hb := nb hb <;> try exact noB hb) | (with_reducible refine Exists.intro _ (And.intro rfl ?_)) | ((with_reducible refine And.intro ?_ ?_); (focus exact sdA)) | fail)
    all_goals first | (exfalso; omega) | (refine rt ?_; refine fin ?_; exact wqA)
set_option maxHeartbeats 8000000 in
theorem xnext_fn3 (b : BookS) (s : StS) (r : RecS) (hb : b.ok) (hr : rightS b s) (h0 : 0 ≤ s.step) (hm : r.may) (hv : r.vis = s.visit) (hk : r.kind = 3) : Fn Try.prog 98 [b.v, s.v, r.v] [] (if outOK b s r then .tup [(s.went b r).v, bool true] else .tup [StS.zero.v, bool false]) [] := by
  obtain ⟨l3, l4, l5, l6⟩ := right_tries hb hr h0
  obtain ⟨l1, l2⟩ := right_vars hb hr
  have c1 := xright_fn b s hb
  have c2 := xmay_fn r
  rw [decide_eq_true hr] at c1
  rw [decide_eq_true hm] at c2
  have m3 : r.may3 := by
    unfold RecS.may at hm
    rcases hm with h | h | h
    · exact absurd h.1 (by omega)
    · exact absurd h.1 (by omega)
    · exact h.2
  have m4 := m3.2.2.2.1
  have m5 := m3.2.2.2.2.2.1
  unfold inR at m4 m5
  have hok := hb
  unfold BookS.ok at hok
  obtain ⟨k1, k2, k3, k4, _⟩ := hok
  have hr' := hr
  unfold rightS at hr'
  have r1 : 0 ≤ s.tries := hr'.2.2.1
  have r2 : s.vars.length = b.vars.length := hr'.2.2.2.2.2.1
  clear hr'
  have ca := xarm_fn (b.steps.getD s.step.toNat StepS.zero) r.to r.vr
  rw [show (b.steps.getD s.step.toNat StepS.zero).arms.any (armIs r.to r.vr) = armS b s r from rfl] at ca
  have cg : Fn Try.prog 143 [b.v, s.v, i64 r.to, i64 r.ofs, i64 r.vr, bytes r.value] [] (s.went b r).v [] := xgo_fn b s r.to r.ofs r.vr r.value (by omega) ⟨l5, l6⟩ l1
  refine en Try.func98 (hfr := by (simp only [Try.ntmps98, go_sem, Nat.reduceSub, Nat.reduceAdd]; rfl)) ?_
  repeat' (first | exact absurd hb Bool.false_ne_true | exact absurd hb.symm Bool.false_ne_true | refine W.seq ?_ | refine W.block ?_ | (refine rgx [11] [] ?_; intro K hK) | (refine drx [11] [] ?_; intro K hK) | refine cl (c1) ?_ | refine cl (c2) ?_ | refine oq ?_ | refine sk ?_ | (refine nk hK ?_; clear hK K) | (refine nd hK ?_; clear hK K) | refine sp ?_ | refine ex ?_ | (refine gs (fun hb => ?_) (fun hb => ?_) <;> replace hb := nb hb <;> try exact noB hb) | (refine cd (fun hb => ?_) (fun hb => ?_) <;> replace hb := nb hb <;> try exact noB hb) | (with_reducible refine Exists.intro _ (And.intro rfl ?_)) | ((with_reducible refine And.intro ?_ ?_); (focus exact sdA)) | fail)
  by_cases ho : 1 ≤ s.tries ∧ (-3 ≤ r.to ∧ r.to < b.steps.length) ∧ r.vr < s.vars.length
  · obtain ⟨o1, o2, o3⟩ := ho
    repeat' (first | exact absurd hb Bool.false_ne_true | exact absurd hb.symm Bool.false_ne_true | refine W.seq ?_ | refine W.block ?_ | (refine rgx [13] [] ?_; intro K hK) | (refine drx [13] [] ?_; intro K hK) | refine oq ?_ | refine sk ?_ | (refine nk hK ?_; clear hK K) | (refine nd hK ?_; clear hK K) | refine sp ?_ | refine ex ?_ | (refine gs (fun hb => ?_) (fun hb => ?_) <;> replace hb := nb hb <;> try exact noB hb) | (refine cd (fun hb => ?_) (fun hb => ?_) <;> replace hb := nb hb <;> try exact noB hb) | (with_reducible refine Exists.intro _ (And.intro rfl ?_)) | ((with_reducible refine And.intro ?_ ?_); (focus exact sdA)) | fail)
    refine W.jn ((ay 3 (.ptr 0 0 :: .ptr 1 0 :: .ptr 2 0 :: .ptr 3 0 :: bool false :: ay 2 (.ptr 4 0 :: bool (armS b s r && decide (s.off ≤ r.ofs)) :: ay 137 [])))) [.cells 25 b.cells, .cells 31 s.cells, .cells 48 r.cells, .cells 31 [i64 0, i64 0, i64 0, i64 0, .nil], .cells 42 (b.steps.getD s.step.toNat StepS.zero).cells] ?_ ?_
    · skip
      repeat' (first | exact absurd hb Bool.false_ne_true | exact absurd hb.symm Bool.false_ne_true | refine W.seq ?_ | refine W.block ?_ | (refine rg [] ?_; intro K hK) | (refine dr [] ?_; intro K hK) | refine cl (ca) ?_ | refine oq ?_ | refine sk ?_ | (refine nk hK ?_; clear hK K) | (refine nd hK ?_; clear hK K) | refine sp ?_ | refine ex ?_ | (refine gs (fun hb => ?_) (fun hb => ?_) <;> replace hb := nb hb <;> try exact noB hb) | (refine cd (fun hb => ?_) (fun hb => ?_) <;> replace hb := nb hb <;> try exact noB hb) | (with_reducible refine Exists.intro _ (And.intro rfl ?_)) | ((with_reducible refine And.intro ?_ ?_); (focus exact sdA)) | fail)
      all_goals refine Ent.to ?_ rfl
      all_goals (repeat' (first | exact WkL.nil | refine WkL.cons ?_ ?_ | exact Wk.any | exact Wk.rfl | refine Wk.bool ?_))
      · rw [show armS b s r = true from ‹_›]
        rfl
      · rw [show armS b s r = false from ‹_›]
        rfl
    repeat' (first | exact absurd hb Bool.false_ne_true | exact absurd hb.symm Bool.false_ne_true | refine W.seq ?_ | refine W.block ?_ | (refine rgx [14] [] ?_; intro K hK) | (refine drx [14] [] ?_; intro K hK) | refine oq ?_ | refine sk ?_ | (refine nk hK ?_; clear hK K) | (refine nd hK ?_; clear hK K) | refine sp ?_ | refine ex ?_ | (refine gs (fun hb => ?_) (fun hb => ?_) <;> replace hb := nb hb <;> try exact noB hb) | (refine cd (fun hb => ?_) (fun hb => ?_) <;> replace hb := nb hb <;> try exact noB hb) | (with_reducible refine Exists.intro _ (And.intro rfl ?_)) | ((with_reducible refine And.intro ?_ ?_); (focus exact sdA)) | fail)
    refine W.jn ((ay 3 (.ptr 0 0 :: .ptr 1 0 :: .ptr 2 0 :: .ptr 3 0 :: bool false :: ay 2 (.ptr 4 0 :: bool (armS b s r && decide (s.off ≤ r.ofs)) :: bool (decide (lateS b s r)) :: ay 136 [])))) [.cells 25 b.cells, .cells 31 s.cells, .cells 48 r.cells, .cells 31 [i64 0, i64 0, i64 0, i64 0, .nil], .cells 42 (b.steps.getD s.step.toNat StepS.zero).cells] ?_ ?_
    · skip
      repeat' (first | exact absurd hb Bool.false_ne_true | exact absurd hb.symm Bool.false_ne_true | refine W.seq ?_ | refine W.block ?_ | (refine rg [] ?_; intro K hK) | (refine dr [] ?_; intro K hK) | refine oq ?_ | refine sk ?_ | (refine nk hK ?_; clear hK K) | (refine nd hK ?_; clear hK K) | refine sp ?_ | refine ex ?_ | (refine gs (fun hb => ?_) (fun hb => ?_) <;> replace hb := nb hb <;> try exact noB hb) | (refine cd (fun hb => ?_) (fun hb => ?_) <;> replace hb := nb hb <;> try exact noB hb) | (with_reducible refine Exists.intro _ (And.intro rfl ?_)) | ((with_reducible refine And.intro ?_ ?_); (focus exact sdA)) | fail)
      all_goals refine Ent.to ?_ rfl
      all_goals (repeat' (first | exact WkL.nil | refine WkL.cons ?_ ?_ | exact Wk.any | exact Wk.rfl | refine Wk.bool ?_))
      all_goals (rw [Bool.eq_iff_iff]; simp only [beq_iff_eq, decide_eq_true_eq, true_iff, false_iff, Bool.false_eq_true]; unfold lateS BookS.at; omega)
    have hor : outOK b s r ↔ lateS b s r ∨ (armS b s r && decide (s.off ≤ r.ofs)) = true := by
      unfold outOK
      rw [Bool.and_eq_true, decide_eq_true_eq]
      exact ⟨fun h => h.2.2.2, fun h => ⟨o1, o2, o3, h⟩⟩
    by_cases hi : outOK b s r
    · rw [if_pos hi]
      repeat' (first | exact absurd hb Bool.false_ne_true | exact absurd hb.symm Bool.false_ne_true | refine W.seq ?_ | refine W.block ?_ | (refine rg [] ?_; intro K hK) | (refine dr [] ?_; intro K hK) | refine cl (cg) ?_ | refine oq ?_ | refine sk ?_ | (refine nk hK ?_; clear hK K) | (refine nd hK ?_; clear hK K) | refine sp ?_ | refine ex ?_ | (refine gs (fun hb => ?_) (fun hb => ?_) <;> replace hb := nb hb <;> try exact noB hb) | (refine cd (fun hb => ?_) (fun hb => ?_) <;> replace hb := nb hb <;> try exact noB hb) | (with_reducible refine Exists.intro _ (And.intro rfl ?_)) | ((with_reducible refine And.intro ?_ ?_); (focus exact sdA)) | fail)
      · exact absurd hi (fun hi => by rcases hor.1 hi with h | h; exact ‹¬ lateS b s r› h; rw [‹(armS b s r && decide (s.off ≤ r.ofs)) = false›] at h; cases h)
      · skip
        all_goals (refine rt ?_; refine fin ?_; exact wqA)
      · skip
        all_goals (refine rt ?_; refine fin ?_; exact wqA)
    · rw [if_neg hi]
      repeat' (first | exact absurd hb Bool.false_ne_true | exact absurd hb.symm Bool.false_ne_true | refine W.seq ?_ | refine W.block ?_ | (refine rg [] ?_; intro K hK) | (refine dr [] ?_; intro K hK) | refine cl (cg) ?_ | refine oq ?_ | refine sk ?_ | (refine nk hK ?_; clear hK K) | (refine nd hK ?_; clear hK K) | refine sp ?_ | refine ex ?_ | (refine gs (fun hb => ?_) (fun hb => ?_) <;> replace hb := nb hb <;> try exact noB hb) | (refine cd (fun hb => ?_) (fun hb => ?_) <;> replace hb := nb hb <;> try exact noB hb) | (with_reducible refine Exists.intro _ (And.intro rfl ?_)) | ((with_reducible refine And.intro ?_ ?_); (focus exact sdA)) | fail)
      · skip
        all_goals (refine rt ?_; refine fin ?_; exact wqA)
      · exact absurd (hor.2 (.inl ‹lateS b s r›)) hi
      · exact absurd (hor.2 (.inr ‹(armS b s r && decide (s.off ≤ r.ofs)) = true›)) hi
  · rw [if_neg (fun h => ho ⟨h.1, h.2.1, h.2.2.1⟩)]
    repeat' (first | exact absurd hb Bool.false_ne_true | exact absurd hb.symm Bool.false_ne_true | refine W.seq ?_ | refine W.block ?_ | (refine rg [] ?_; intro K hK) | (refine dr [] ?_; intro K hK) | refine oq ?_ | refine sk ?_ | (refine nk hK ?_; clear hK K) | (refine nd hK ?_; clear hK K) | refine sp ?_ | refine ex ?_ | (refine gs (fun hb => ?_) (fun hb => ?_) <;> replace hb := nb hb <;> try exact noB hb) | (refine cd (fun hb => ?_) (fun hb => ?_) <;> replace hb := nb hb <;> try exact noB hb) | (with_reducible refine Exists.intro _ (And.intro rfl ?_)) | ((with_reducible refine And.intro ?_ ?_); (focus exact sdA)) | fail)
    all_goals (refine rt ?_; refine fin ?_; exact wqA)
theorem xnext_fn (b : BookS) (s : StS) (r : RecS) (hb : b.ok) : Fn Try.prog 98 [b.v, s.v, r.v] [] (.tup [(nextS b s r).v, bool (decide (nextOK b s r))]) [] := by
  unfold nextS
  by_cases h : rightS b s ∧ 0 ≤ s.step ∧ r.may ∧ r.vis = s.visit ∧ ¬ r.kind = 1
  · obtain ⟨hr, h0, hm, hv, hk1⟩ := h
    have hk : r.kind = 2 ∨ r.kind = 3 := by unfold RecS.may at hm; omega
    rcases hk with hk | hk
    · have hn : nextOK b s r ↔ intOK b s r := ⟨fun h => by rcases h.2.2.2.2 with h | h; exact h.2; omega, fun h => ⟨hr, h0, hm, hv, .inl ⟨hk, h⟩⟩⟩
      have c := xnext_fn2 b s r hb hr h0 hm hv hk
      by_cases hi : intOK b s r
      · rw [if_pos (hn.2 hi), decide_eq_true (hn.2 hi)]
        rw [if_pos hi] at c
        unfold nextT
        rw [if_pos hk]
        exact c
      · rw [if_neg (fun h => hi (hn.1 h)), decide_eq_false (fun h => hi (hn.1 h))]
        rw [if_neg hi] at c
        exact c
    · have hn : nextOK b s r ↔ outOK b s r := ⟨fun h => by rcases h.2.2.2.2 with h | h; omega; exact h.2, fun h => ⟨hr, h0, hm, hv, .inr ⟨hk, h⟩⟩⟩
      have c := xnext_fn3 b s r hb hr h0 hm hv hk
      by_cases hi : outOK b s r
      · rw [if_pos (hn.2 hi), decide_eq_true (hn.2 hi)]
        rw [if_pos hi] at c
        unfold nextT
        rw [if_neg (by omega)]
        exact c
      · rw [if_neg (fun h => hi (hn.1 h)), decide_eq_false (fun h => hi (hn.1 h))]
        rw [if_neg hi] at c
        exact c
  · have hn : ¬ nextOK b s r := fun k => h ⟨k.1, k.2.1, k.2.2.1, k.2.2.2.1, by rcases k.2.2.2.2 with k | k <;> omega⟩
    rw [if_neg hn, decide_eq_false hn]
    exact xnext_fn0 b s r hb h
def stepA (b : BookS) : Option StS → List UInt8 → Option StS
  | none, _ => none
  | some s, x => if getOK x = true ∧ nextOK b s (gotR x) then some (nextT b s (gotR x)) else none
/-- May a record be the first? -/
def firstOK (b : BookS) (x : List UInt8) : Prop := getOK x = true ∧ (gotR x).kind = 1 ∧ rightS b (gotR x).state
instance (b : BookS) (x : List UInt8) : Decidable (firstOK b x) := by unfold firstOK; exact inferInstance
/-- The state behind all, if there is one. -/
def allS (b : BookS) : List (List UInt8) → Option StS
  | [] => some b.start
  | x :: xs => if firstOK b x then xs.foldl (stepA b) (some (gotR x).state) else none
theorem foldl_none (b : BookS) : ∀ l : List (List UInt8), l.foldl (stepA b) none = none
  | [] => rfl
  | _ :: l => foldl_none b l
theorem allS_snoc (b : BookS) (l : List (List UInt8)) (x : List UInt8) (h : l ≠ []) : allS b (l ++ [x]) = stepA b (allS b l) x := by
  cases l with
  | nil => exact absurd rfl h
  | cons y l =>
    show (if firstOK b y then (l ++ [x]).foldl (stepA b) (some (gotR y).state) else none) = stepA b (if firstOK b y then l.foldl (stepA b) (some (gotR y).state) else none) x
    split
    · rw [List.foldl_append]; rfl
    · rfl
theorem allS_step (b : BookS) (l : List (List UInt8)) (i : Nat) (h : i < l.length) (h0 : 0 < i) : allS b (l.take (i + 1)) = stepA b (allS b (l.take i)) (l.getD i []) := by
  rw [List.take_add_one, gdS h []]
  exact allS_snoc b _ _ (fun e => by have := congrArg List.length e; rw [List.length_take, List.length_nil] at this; omega)
theorem allS_none (b : BookS) (l m : List (List UInt8)) (h : allS b l = none) : allS b (l ++ m) = none := by
  cases l with
  | nil => cases h
  | cons y l =>
    show (if firstOK b y then (l ++ m).foldl (stepA b) (some (gotR y).state) else none) = none
    have h : (if firstOK b y then l.foldl (stepA b) (some (gotR y).state) else none) = none := h
    split
    · rename_i hf
      rw [if_pos hf] at h
      rw [List.foldl_append, h, foldl_none]
    · rfl
theorem allS_take (b : BookS) (l : List (List UInt8)) (i : Nat) (h : allS b (l.take i) = none) : allS b l = none := by
  rw [← List.take_append_drop i l]
  exact allS_none b _ _ h
/-- What is true of each state on the way. -/
def StS.fit (s : StS) : Prop := s.vars.length ≤ 20 ∧ shortB s.vars = true
theorem start_fit (b : BookS) (hb : b.ok) : b.start.fit := by
  unfold BookS.ok at hb
  refine ⟨by simp [BookS.start]; omega, ?_⟩
  unfold shortB BookS.start
  rw [List.all_eq_true]
  intro x hx
  obtain ⟨_, rfl⟩ := List.mem_replicate.1 hx
  rfl
theorem next_fit (b : BookS) (s : StS) (r : RecS) (hb : b.ok) (h : nextOK b s r) : (nextT b s r).fit := by
  obtain ⟨l1, l2⟩ := right_vars hb h.1
  unfold nextT
  split
  · exact ⟨l1, l2⟩
  · unfold StS.went
    refine ⟨?_, ?_⟩
    · simp only
      split
      · rw [List.length_set]; exact l1
      · exact l1
    · simp only
      split
      · have hm := h.2.2.1
        have hv : r.value.length ≤ 100 := by
          unfold RecS.may at hm
          rcases hm with k | k | k
          · rw [k.2.1.2.2.2]; decide
          · rw [k.2.2.1.2.2.2]; decide
          · exact k.2.2.2.2.2.2.2.1
        unfold shortB at l2 ⊢
        rw [List.all_eq_true] at l2 ⊢
        intro x hx
        rcases List.mem_or_eq_of_mem_set hx with k | k
        · exact l2 x k
        · rw [k]; exact decide_eq_true hv
      · exact l2
theorem copied_d (s : StS) (hf : s.fit) : Fn Try.prog 74 [s.v] [] s.v [] := by
  have h := copied_fn s (by have := hf.1; omega) hf.2
  exact h.frzV (by decide) (elems_map (s.vars.map dtext)) (by simp) (.agg (.cons (.wk .rfl) (.cons (.wk .rfl) (.cons (.wk .rfl) (.cons (.wk .rfl) (.cons .hd .nil)))))) rfl
def allR (b : BookS) (l : List (List UInt8)) : StS := (allS b l).getD StS.zero
set_option maxHeartbeats 8000000 in
theorem all_fn (b : BookS) (l : List (List UInt8)) (hB : b.ok) (hl : ∀ x ∈ l, x.length ≤ 1000) : Fn Try.prog 31 [b.v, texts l] [] (.tup [(allR b l).v, i64 (if (allS b l).isSome then 0 else 7)]) [] := by
  have hok := hB
  unfold BookS.ok at hok
  obtain ⟨k1, k2, k3, k4, _⟩ := hok
  have cs := start_fn b (by omega)
  cases l with
  | nil =>
    show Fn Try.prog 31 [b.v, texts []] [] (.tup [b.start.v, i64 0]) []
    refine en Try.func31 (hfr := by (simp only [Try.ntmps31, go_sem, Nat.reduceSub, Nat.reduceAdd]; rfl)) ?_
    repeat' (first | exact absurd hb Bool.false_ne_true | exact absurd hb.symm Bool.false_ne_true | refine W.seq ?_ | refine W.block ?_ | (refine rg [] ?_; intro K hK) | (refine dr [] ?_; intro K hK) | refine cl (cs) ?_ | refine oq ?_ | refine sk ?_ | (refine nk hK ?_; clear hK K) | (refine nd hK ?_; clear hK K) | refine sp ?_ | refine ex ?_ | (refine gs (fun hb => ?_) (fun hb => ?_) <;> replace hb := nb hb <;> try exact noB hb) | (refine cd (fun hb => ?_) (fun hb => ?_) <;> replace hb := nb hb <;> try exact noB hb) | (with_reducible refine Exists.intro _ (And.intro rfl ?_)) | ((with_reducible refine And.intro ?_ ?_); (focus exact sdA)) | fail)
    all_goals (refine rt ?_; refine fin ?_; exact wqA)
  | cons x xs =>
    have cg := get_fn x (by have := hl x (by simp); omega)
    have cr := right_fn b (gotR x).state hB
    by_cases hf : firstOK b x
    · have hf' := hf
      obtain ⟨f1, f2, f3⟩ := hf'
      rw [if_pos f1] at cg
      rw [decide_eq_true f3] at cr
      refine en Try.func31 (hfr := by (simp only [Try.ntmps31, go_sem, Nat.reduceSub, Nat.reduceAdd]; rfl)) ?_
      refine W.le (s := 1) rfl fun hm => ?_
      rw [List.length_map, List.length_cons] at hm
      repeat' (first | exact absurd hb Bool.false_ne_true | exact absurd hb.symm Bool.false_ne_true | refine W.seq ?_ | refine W.block ?_ | (refine rgx [8] [] ?_; intro K hK) | (refine drx [8] [] ?_; intro K hK) | refine cl (cg) ?_ | refine cl (cr) ?_ | refine oq ?_ | refine sk ?_ | (refine nk hK ?_; clear hK K) | (refine nd hK ?_; clear hK K) | refine sp ?_ | refine ex ?_ | (refine gs (fun hb => ?_) (fun hb => ?_) <;> replace hb := nb hb <;> try exact noB hb) | (refine cd (fun hb => ?_) (fun hb => ?_) <;> replace hb := nb hb <;> try exact noB hb) | (with_reducible refine Exists.intro _ (And.intro rfl ?_)) | ((with_reducible refine And.intro ?_ ?_); (focus exact sdA)) | fail)
      simp only [List.take_length]
      have h1 : allS b ((x :: xs).take 1) = some (gotR x).state := if_pos hf
      refine W.lp (ι := Nat × StS) (fun p => (ay 2 (.ptr 0 0 :: ay 1 (.ptr 1 0 :: i64 0 :: ay 2 (.ptr 3 0 :: ay 34 (texts xs :: i64 xs.length :: i64 p.1 :: ay 24 [])))))) (fun p => [.cells 25 b.cells, .cells 31 [i64 0, i64 0, i64 0, i64 0, .nil], .cells 35 (gotR x).cells, .cells 31 p.2.cells]) (fun p => p.1 ≤ xs.length ∧ p.2.fit ∧ allS b ((x :: xs).take (p.1 + 1)) = some p.2) (fun p => xs.length - p.1) (0, (gotR x).state) ⟨Nat.zero_le _, right_vars hB f3, h1⟩ (Ent.to ?_ rfl) ?_
      · skip
        exact wkA
      · rintro ⟨i, s⟩ ⟨hi, hfit, ha⟩
        simp only at hi hfit ha
        simp only
        by_cases hlt : i < xs.length
        · have hy : xs.getD i [] ∈ x :: xs := by
            rw [List.getD_eq_getElem?_getD, List.getElem?_eq_getElem hlt]
            exact List.mem_cons_of_mem _ (List.getElem_mem hlt)
          have hst := allS_step b (x :: xs) (i + 1) (by simp; omega) (by omega)
          rw [ha, List.getD_cons_succ] at hst
          have cy := get_fn (xs.getD i []) (by have := hl _ hy; omega)
          have cn := next_fn b s (gotR (xs.getD i [])) hB
          by_cases g1 : getOK (xs.getD i []) = true
          · rw [if_pos g1] at cy
            by_cases g2 : nextOK b s (gotR (xs.getD i []))
            · have hn : nextS b s (gotR (xs.getD i [])) = nextT b s (gotR (xs.getD i [])) := if_pos g2
              rw [hn, if_pos g2] at cn
              have hst : allS b ((x :: xs).take (i + 1 + 1)) = some (nextT b s (gotR (xs.getD i []))) := hst.trans (if_pos ⟨g1, g2⟩)
              repeat' (first | exact absurd hb Bool.false_ne_true | exact absurd hb.symm Bool.false_ne_true | refine W.seq ?_ | refine W.block ?_ | (refine rg [] ?_; intro K hK) | (refine dr [] ?_; intro K hK) | refine cl (cy) ?_ | refine cl (cn) ?_ | refine oq ?_ | refine sk ?_ | (refine nk hK ?_; clear hK K) | (refine nd hK ?_; clear hK K) | refine sp ?_ | refine ex ?_ | (refine gs (fun hb => ?_) (fun hb => ?_) <;> replace hb := nb hb <;> try exact noB hb) | (refine cd (fun hb => ?_) (fun hb => ?_) <;> replace hb := nb hb <;> try exact noB hb) | (with_reducible refine Exists.intro _ (And.intro rfl ?_)) | ((with_reducible refine And.intro ?_ ?_); (focus exact sdA)) | fail)
              refine nx (i + 1, nextT b s (gotR (xs.getD i []))) ⟨by omega, next_fit b s _ hB g2, hst⟩ (by simp only; omega) (sb [0, 1, 2, 3] _ _ (hf := ?_))
              exact wkA
            · have hn : allS b (x :: xs) = none := allS_take b _ _ (hst.trans (if_neg (fun h => g2 h.2)))
              rw [if_neg g2] at cn
              unfold allR
              rw [hn]
              repeat' (first | exact absurd hb Bool.false_ne_true | exact absurd hb.symm Bool.false_ne_true | refine W.seq ?_ | refine W.block ?_ | (refine rg [] ?_; intro K hK) | (refine dr [] ?_; intro K hK) | refine cl (cy) ?_ | refine cl (cn) ?_ | refine oq ?_ | refine sk ?_ | (refine nk hK ?_; clear hK K) | (refine nd hK ?_; clear hK K) | refine sp ?_ | refine ex ?_ | (refine gs (fun hb => ?_) (fun hb => ?_) <;> replace hb := nb hb <;> try exact noB hb) | (refine cd (fun hb => ?_) (fun hb => ?_) <;> replace hb := nb hb <;> try exact noB hb) | (with_reducible refine Exists.intro _ (And.intro rfl ?_)) | ((with_reducible refine And.intro ?_ ?_); (focus exact sdA)) | fail)
              all_goals (refine rt ?_; refine fin ?_; exact wqA)
          · have hn : allS b (x :: xs) = none := allS_take b _ _ (hst.trans (if_neg (fun h => g1 h.1)))
            rw [if_neg g1] at cy
            unfold allR
            rw [hn]
            repeat' (first | exact absurd hb Bool.false_ne_true | exact absurd hb.symm Bool.false_ne_true | refine W.seq ?_ | refine W.block ?_ | (refine rg [] ?_; intro K hK) | (refine dr [] ?_; intro K hK) | refine cl (cy) ?_ | refine oq ?_ | refine sk ?_ | (refine nk hK ?_; clear hK K) | (refine nd hK ?_; clear hK K) | refine sp ?_ | refine ex ?_ | (refine gs (fun hb => ?_) (fun hb => ?_) <;> replace hb := nb hb <;> try exact noB hb) | (refine cd (fun hb => ?_) (fun hb => ?_) <;> replace hb := nb hb <;> try exact noB hb) | (with_reducible refine Exists.intro _ (And.intro rfl ?_)) | ((with_reducible refine And.intro ?_ ?_); (focus exact sdA)) | fail)
            all_goals (refine rt ?_; refine fin ?_; exact wqA)
        · have ha : allS b (x :: xs) = some s := by rwa [List.take_of_length_le (by simp; omega)] at ha
          unfold allR
          rw [ha]
          have cq := copied_d s hfit
          repeat' (first | exact absurd hb Bool.false_ne_true | exact absurd hb.symm Bool.false_ne_true | refine W.seq ?_ | refine W.block ?_ | (refine rg [] ?_; intro K hK) | (refine dr [] ?_; intro K hK) | refine cl (cq) ?_ | refine oq ?_ | refine sk ?_ | (refine nk hK ?_; clear hK K) | (refine nd hK ?_; clear hK K) | refine sp ?_ | refine ex ?_ | (refine gs (fun hb => ?_) (fun hb => ?_) <;> replace hb := nb hb <;> try exact noB hb) | (refine cd (fun hb => ?_) (fun hb => ?_) <;> replace hb := nb hb <;> try exact noB hb) | (with_reducible refine Exists.intro _ (And.intro rfl ?_)) | ((with_reducible refine And.intro ?_ ?_); (focus exact sdA)) | fail)
          all_goals (refine rt ?_; refine fin ?_; exact wqA)
    · have hn : allS b (x :: xs) = none := if_neg hf
      unfold allR
      rw [hn]
      show Fn Try.prog 31 [b.v, texts (x :: xs)] [] (.tup [StS.zero.v, i64 7]) []
      by_cases f1 : getOK x = true
      · rw [if_pos f1] at cg
        by_cases f2 : (gotR x).kind = 1
        · rw [decide_eq_false (fun f3 => hf ⟨f1, f2, f3⟩)] at cr
          refine en Try.func31 (hfr := by (simp only [Try.ntmps31, go_sem, Nat.reduceSub, Nat.reduceAdd]; rfl)) ?_
          repeat' (first | exact absurd hb Bool.false_ne_true | exact absurd hb.symm Bool.false_ne_true | refine W.seq ?_ | refine W.block ?_ | (refine rg [] ?_; intro K hK) | (refine dr [] ?_; intro K hK) | refine cl (cg) ?_ | refine cl (cr) ?_ | refine oq ?_ | refine sk ?_ | (refine nk hK ?_; clear hK K) | (refine nd hK ?_; clear hK K) | refine sp ?_ | refine ex ?_ | (refine gs (fun hb => ?_) (fun hb => ?_) <;> replace hb := nb hb <;> try exact noB hb) | (refine cd (fun hb => ?_) (fun hb => ?_) <;> replace hb := nb hb <;> try exact noB hb) | (with_reducible refine Exists.intro _ (And.intro rfl ?_)) | ((with_reducible refine And.intro ?_ ?_); (focus exact sdA)) | fail)
          all_goals (refine rt ?_; refine fin ?_; exact wqA)
        · skip
          refine en Try.func31 (hfr := by (simp only [Try.ntmps31, go_sem, Nat.reduceSub, Nat.reduceAdd]; rfl)) ?_
          repeat' (first | exact absurd hb Bool.false_ne_true | exact absurd hb.symm Bool.false_ne_true | refine W.seq ?_ | refine W.block ?_ | (refine rg [] ?_; intro K hK) | (refine dr [] ?_; intro K hK) | refine cl (cg) ?_ | refine cl (cr) ?_ | refine oq ?_ | refine sk ?_ | (refine nk hK ?_; clear hK K) | (refine nd hK ?_; clear hK K) | refine sp ?_ | refine ex ?_ | (refine gs (fun hb => ?_) (fun hb => ?_) <;> replace hb := nb hb <;> try exact noB hb) | (refine cd (fun hb => ?_) (fun hb => ?_) <;> replace hb := nb hb <;> try exact noB hb) | (with_reducible refine Exists.intro _ (And.intro rfl ?_)) | ((with_reducible refine And.intro ?_ ?_); (focus exact sdA)) | fail)
          all_goals (refine rt ?_; refine fin ?_; exact wqA)
      · rw [if_neg f1] at cg
        refine en Try.func31 (hfr := by (simp only [Try.ntmps31, go_sem, Nat.reduceSub, Nat.reduceAdd]; rfl)) ?_
        repeat' (first | exact absurd hb Bool.false_ne_true | exact absurd hb.symm Bool.false_ne_true | refine W.seq ?_ | refine W.block ?_ | (refine rg [] ?_; intro K hK) | (refine dr [] ?_; intro K hK) | refine cl (cg) ?_ | refine cl (cr) ?_ | refine oq ?_ | refine sk ?_ | (refine nk hK ?_; clear hK K) | (refine nd hK ?_; clear hK K) | refine sp ?_ | refine ex ?_ | (refine gs (fun hb => ?_) (fun hb => ?_) <;> replace hb := nb hb <;> try exact noB hb) | (refine cd (fun hb => ?_) (fun hb => ?_) <;> replace hb := nb hb <;> try exact noB hb) | (with_reducible refine Exists.intro _ (And.intro rfl ?_)) | ((with_reducible refine And.intro ?_ ?_); (focus exact sdA)) | fail)
        all_goals (refine rt ?_; refine fin ?_; exact wqA)
theorem allS_one (b : BookS) (l : List (List UInt8)) (h : 0 < l.length) : allS b (l.take 1) = if firstOK b (l.getD 0 []) then some (gotR (l.getD 0 [])).state else none := by
  cases l with
  | nil => simp at h
  | cons x xs => rfl
set_option maxHeartbeats 8000000 in
theorem xall_fn (b : BookS) (l : List (List UInt8)) (hB : b.ok) : Fn Try.prog 32 [b.v, texts l] [] (.tup [(allR b l).v, bool (allS b l).isSome]) [] := by
  have hok := hB
  unfold BookS.ok at hok
  obtain ⟨k1, k2, k3, k4, _⟩ := hok
  have cs := xstart_fn b (by omega)
  refine en Try.func32 (hfr := by (simp only [Try.ntmps32, go_sem, Nat.reduceSub, Nat.reduceAdd]; rfl)) ?_
  refine W.le (s := 1) rfl fun hm => ?_
  rw [List.length_map] at hm
  repeat' (first | exact absurd hb Bool.false_ne_true | exact absurd hb.symm Bool.false_ne_true | refine W.seq ?_ | refine W.block ?_ | (refine rgx [3] [] ?_; intro K hK) | (refine drx [3] [] ?_; intro K hK) | refine cl (cs) ?_ | refine oq ?_ | refine sk ?_ | (refine nk hK ?_; clear hK K) | (refine nd hK ?_; clear hK K) | refine sp ?_ | refine ex ?_ | (refine gs (fun hb => ?_) (fun hb => ?_) <;> replace hb := nb hb <;> try exact noB hb) | (refine cd (fun hb => ?_) (fun hb => ?_) <;> replace hb := nb hb <;> try exact noB hb) | (with_reducible refine Exists.intro _ (And.intro rfl ?_)) | ((with_reducible refine And.intro ?_ ?_); (focus exact sdA)) | fail)
  refine W.lp (ι := Nat × StS) (fun p => (ay 1 (texts l :: .ptr 0 0 :: ay 1 (.ptr 1 0 :: bool false :: .ptr 2 0 :: i64 p.1 :: ay 52 [])))) (fun p => [.cells 25 b.cells, .cells 31 [i64 0, i64 0, i64 0, i64 0, .nil], .cells 31 p.2.cells]) (fun p => p.1 ≤ l.length ∧ allS b (l.take p.1) = some p.2) (fun p => l.length - p.1) (0, b.start) ⟨Nat.zero_le _, rfl⟩ (Ent.to ?_ rfl) ?_
  · skip
    exact wkA
  · rintro ⟨i, s⟩ ⟨hi, ha⟩
    simp only at hi ha
    simp only
    by_cases hlt : i < l.length
    · have cy := xget_fn (l.getD i [])
      by_cases g1 : getOK (l.getD i []) = true
      · rw [g1] at cy
        by_cases h0 : i = 0
        · subst h0
          have cr := xright_fn b (gotR (l.getD 0 [])).state hB
          have h1 := allS_one b l hlt
          by_cases g2 : (gotR (l.getD 0 [])).kind = 1 ∧ rightS b (gotR (l.getD 0 [])).state
          · rw [if_pos ⟨g1, g2⟩] at h1
            rw [decide_eq_true g2.2] at cr
            have g3 := g2.1
            repeat' (first | exact absurd hb Bool.false_ne_true | exact absurd hb.symm Bool.false_ne_true | refine W.seq ?_ | refine W.block ?_ | (refine rg [] ?_; intro K hK) | (refine dr [] ?_; intro K hK) | refine cl (cy) ?_ | refine cl (cr) ?_ | refine oq ?_ | refine sk ?_ | (refine nk hK ?_; clear hK K) | (refine nd hK ?_; clear hK K) | refine sp ?_ | refine ex ?_ | (refine gs (fun hb => ?_) (fun hb => ?_) <;> replace hb := nb hb <;> try exact noB hb) | (refine cd (fun hb => ?_) (fun hb => ?_) <;> replace hb := nb hb <;> try exact noB hb) | (with_reducible refine Exists.intro _ (And.intro rfl ?_)) | ((with_reducible refine And.intro ?_ ?_); (focus exact sdA)) | fail)
            refine nx (1, (gotR (l.getD 0 [])).state) ⟨by omega, h1⟩ (by simp only; omega) (sb [0, 1, 2] _ _ (hf := ?_))
            exact wkA
          · have hn : allS b l = none := allS_take b l 1 (h1.trans (if_neg (fun h => g2 h.2)))
            unfold allR
            rw [hn]
            by_cases g3 : (gotR (l.getD 0 [])).kind = 1
            · rw [decide_eq_false (fun h => g2 ⟨g3, h⟩)] at cr
              repeat' (first | exact absurd hb Bool.false_ne_true | exact absurd hb.symm Bool.false_ne_true | refine W.seq ?_ | refine W.block ?_ | (refine rg [] ?_; intro K hK) | (refine dr [] ?_; intro K hK) | refine cl (cy) ?_ | refine cl (cr) ?_ | refine oq ?_ | refine sk ?_ | (refine nk hK ?_; clear hK K) | (refine nd hK ?_; clear hK K) | refine sp ?_ | refine ex ?_ | (refine gs (fun hb => ?_) (fun hb => ?_) <;> replace hb := nb hb <;> try exact noB hb) | (refine cd (fun hb => ?_) (fun hb => ?_) <;> replace hb := nb hb <;> try exact noB hb) | (with_reducible refine Exists.intro _ (And.intro rfl ?_)) | ((with_reducible refine And.intro ?_ ?_); (focus exact sdA)) | fail)
              all_goals (refine rt ?_; refine fin ?_; exact wqA)
            · skip
              repeat' (first | exact absurd hb Bool.false_ne_true | exact absurd hb.symm Bool.false_ne_true | refine W.seq ?_ | refine W.block ?_ | (refine rg [] ?_; intro K hK) | (refine dr [] ?_; intro K hK) | refine cl (cy) ?_ | refine cl (cr) ?_ | refine oq ?_ | refine sk ?_ | (refine nk hK ?_; clear hK K) | (refine nd hK ?_; clear hK K) | refine sp ?_ | refine ex ?_ | (refine gs (fun hb => ?_) (fun hb => ?_) <;> replace hb := nb hb <;> try exact noB hb) | (refine cd (fun hb => ?_) (fun hb => ?_) <;> replace hb := nb hb <;> try exact noB hb) | (with_reducible refine Exists.intro _ (And.intro rfl ?_)) | ((with_reducible refine And.intro ?_ ?_); (focus exact sdA)) | fail)
              all_goals (refine rt ?_; refine fin ?_; exact wqA)
        · have hst := allS_step b l i hlt (by omega)
          rw [ha] at hst
          have cn := xnext_fn b s (gotR (l.getD i [])) hB
          by_cases g2 : nextOK b s (gotR (l.getD i []))
          · have hn : nextS b s (gotR (l.getD i [])) = nextT b s (gotR (l.getD i [])) := if_pos g2
            rw [hn, decide_eq_true g2] at cn
            have hst : allS b (l.take (i + 1)) = some (nextT b s (gotR (l.getD i []))) := hst.trans (if_pos ⟨g1, g2⟩)
            repeat' (first | exact absurd hb Bool.false_ne_true | exact absurd hb.symm Bool.false_ne_true | refine W.seq ?_ | refine W.block ?_ | (refine rg [] ?_; intro K hK) | (refine dr [] ?_; intro K hK) | refine cl (cy) ?_ | refine cl (cn) ?_ | refine oq ?_ | refine sk ?_ | (refine nk hK ?_; clear hK K) | (refine nd hK ?_; clear hK K) | refine sp ?_ | refine ex ?_ | (refine gs (fun hb => ?_) (fun hb => ?_) <;> replace hb := nb hb <;> try exact noB hb) | (refine cd (fun hb => ?_) (fun hb => ?_) <;> replace hb := nb hb <;> try exact noB hb) | (with_reducible refine Exists.intro _ (And.intro rfl ?_)) | ((with_reducible refine And.intro ?_ ?_); (focus exact sdA)) | fail)
            refine nx (i + 1, nextT b s (gotR (l.getD i []))) ⟨by omega, hst⟩ (by simp only; omega) (sb [0, 1, 2] _ _ (hf := ?_))
            exact wkA
          · have hn : allS b l = none := allS_take b _ _ (hst.trans (if_neg (fun h => g2 h.2)))
            rw [decide_eq_false g2] at cn
            unfold allR
            rw [hn]
            repeat' (first | exact absurd hb Bool.false_ne_true | exact absurd hb.symm Bool.false_ne_true | refine W.seq ?_ | refine W.block ?_ | (refine rg [] ?_; intro K hK) | (refine dr [] ?_; intro K hK) | refine cl (cy) ?_ | refine cl (cn) ?_ | refine oq ?_ | refine sk ?_ | (refine nk hK ?_; clear hK K) | (refine nd hK ?_; clear hK K) | refine sp ?_ | refine ex ?_ | (refine gs (fun hb => ?_) (fun hb => ?_) <;> replace hb := nb hb <;> try exact noB hb) | (refine cd (fun hb => ?_) (fun hb => ?_) <;> replace hb := nb hb <;> try exact noB hb) | (with_reducible refine Exists.intro _ (And.intro rfl ?_)) | ((with_reducible refine And.intro ?_ ?_); (focus exact sdA)) | fail)
            all_goals (refine rt ?_; refine fin ?_; exact wqA)
      · rw [Bool.not_eq_true] at g1
        rw [g1] at cy
        have hn : allS b l = none := by
          refine allS_take b l (i + 1) ?_
          by_cases h0 : i = 0
          · subst h0
            rw [allS_one b l hlt, if_neg (fun h => by rw [h.1] at g1; cases g1)]
          · rw [allS_step b l i hlt (by omega), ha]
            exact if_neg (fun h => by rw [h.1] at g1; cases g1)
        unfold allR
        rw [hn]
        repeat' (first | exact absurd hb Bool.false_ne_true | exact absurd hb.symm Bool.false_ne_true | refine W.seq ?_ | refine W.block ?_ | (refine rg [] ?_; intro K hK) | (refine dr [] ?_; intro K hK) | refine cl (cy) ?_ | refine oq ?_ | refine sk ?_ | (refine nk hK ?_; clear hK K) | (refine nd hK ?_; clear hK K) | refine sp ?_ | refine ex ?_ | (refine gs (fun hb => ?_) (fun hb => ?_) <;> replace hb := nb hb <;> try exact noB hb) | (refine cd (fun hb => ?_) (fun hb => ?_) <;> replace hb := nb hb <;> try exact noB hb) | (with_reducible refine Exists.intro _ (And.intro rfl ?_)) | ((with_reducible refine And.intro ?_ ?_); (focus exact sdA)) | fail)
        all_goals (refine rt ?_; refine fin ?_; exact wqA)
    · rw [List.take_of_length_le (by omega)] at ha
      unfold allR
      rw [ha]
      repeat' (first | exact absurd hb Bool.false_ne_true | exact absurd hb.symm Bool.false_ne_true | refine W.seq ?_ | refine W.block ?_ | (refine rg [] ?_; intro K hK) | (refine dr [] ?_; intro K hK) | refine oq ?_ | refine sk ?_ | (refine nk hK ?_; clear hK K) | (refine nd hK ?_; clear hK K) | refine sp ?_ | refine ex ?_ | (refine gs (fun hb => ?_) (fun hb => ?_) <;> replace hb := nb hb <;> try exact noB hb) | (refine cd (fun hb => ?_) (fun hb => ?_) <;> replace hb := nb hb <;> try exact noB hb) | (with_reducible refine Exists.intro _ (And.intro rfl ?_)) | ((with_reducible refine And.intro ?_ ?_); (focus exact sdA)) | fail)
      all_goals (refine rt ?_; refine fin ?_; exact wqA)
def patsB (l : List ArmS) : Bool := l.all fun a => decide (a.pat.length ≤ 100)
def stepB (s : StepS) : Bool := decide (s.arms.length ≤ 10 ∧ s.send.length ≤ 300) && patsB s.arms
def fewB (b : BookS) : Bool := b.steps.all stepB && decide (b.steps.length ≤ 35 ∧ b.vars.length ≤ 20 ∧ b.most < 1000000 ∧ -1000000 < b.most)
def triesB (b : BookS) : Bool := b.steps.all fun s => decide (-1000000 ≤ s.tr ∧ s.tr ≤ 1000000)
theorem few_ok {b : BookS} (h1 : fewB b = true) (h2 : triesB b = true) : b.ok := by
  unfold fewB at h1
  unfold triesB at h2
  rw [Bool.and_eq_true, decide_eq_true_eq] at h1
  rw [List.all_eq_true] at h2
  exact ⟨h1.2.1, h1.2.2.1, h1.2.2.2.2, h1.2.2.2.1, fun s hs => of_decide_eq_true (h2 s hs)⟩
set_option maxHeartbeats 4000000 in
theorem tries_fn (b : BookS) : Fn Try.prog 16 [b.v] [] (bool (triesB b)) [] := by
  refine en Try.func16 (hfr := by (simp only [Try.ntmps16, go_sem, Nat.reduceSub, Nat.reduceAdd]; rfl)) ?_
  repeat' (first | exact absurd hb Bool.false_ne_true | exact absurd hb.symm Bool.false_ne_true | refine W.seq ?_ | refine W.block ?_ | (refine rgx [2] [] ?_; intro K hK) | (refine drx [2] [] ?_; intro K hK) | refine oq ?_ | refine sk ?_ | (refine nk hK ?_; clear hK K) | (refine nd hK ?_; clear hK K) | refine sp ?_ | refine ex ?_ | (refine gs (fun hb => ?_) (fun hb => ?_) <;> replace hb := nb hb <;> try exact noB hb) | (refine cd (fun hb => ?_) (fun hb => ?_) <;> replace hb := nb hb <;> try exact noB hb) | (with_reducible refine Exists.intro _ (And.intro rfl ?_)) | ((with_reducible refine And.intro ?_ ?_); (focus exact sdA)) | fail)
  refine W.leC (i := 0) (j := 0) rfl rfl fun hm => ?_
  rw [List.length_map] at hm
  refine W.lp (ι := Nat) (fun i => (ay 1 (.ptr 0 0 :: bool false :: i64 i :: ay 23 []))) (fun _ => [.cells 25 b.cells]) (fun i => i ≤ b.steps.length ∧ (b.steps.take i).all (fun s => decide (-1000000 ≤ s.tr ∧ s.tr ≤ 1000000)) = true) (fun i => b.steps.length - i) 0 ⟨Nat.zero_le _, rfl⟩ (Ent.to ?_ rfl) ?_
  · skip
    exact wkA
  · rintro i ⟨hi, ha⟩
    by_cases hlt : i < b.steps.length
    · have hx := gdS hlt StepS.zero
      by_cases hp : -1000000 ≤ (b.steps.getD i StepS.zero).tr ∧ (b.steps.getD i StepS.zero).tr ≤ 1000000
      · obtain ⟨h1, h2⟩ := hp
        have h3 := allT ha hx (decide_eq_true ⟨h1, h2⟩)
        repeat' (first | exact absurd hb Bool.false_ne_true | exact absurd hb.symm Bool.false_ne_true | refine W.seq ?_ | refine W.block ?_ | (refine rg [] ?_; intro K hK) | (refine dr [] ?_; intro K hK) | refine oq ?_ | refine sk ?_ | (refine nk hK ?_; clear hK K) | (refine nd hK ?_; clear hK K) | refine sp ?_ | refine ex ?_ | (refine gs (fun hb => ?_) (fun hb => ?_) <;> replace hb := nb hb <;> try exact noB hb) | (refine cd (fun hb => ?_) (fun hb => ?_) <;> replace hb := nb hb <;> try exact noB hb) | (with_reducible refine Exists.intro _ (And.intro rfl ?_)) | ((with_reducible refine And.intro ?_ ?_); (focus exact sdA)) | fail)
        refine nx (i + 1) ⟨by omega, h3⟩ (by omega) (Ent.to ?_ rfl)
        exact wkA
      · rw [show triesB b = false from allF hx (decide_eq_false hp)]
        repeat' (first | exact absurd hb Bool.false_ne_true | exact absurd hb.symm Bool.false_ne_true | refine W.seq ?_ | refine W.block ?_ | (refine rg [] ?_; intro K hK) | (refine dr [] ?_; intro K hK) | refine oq ?_ | refine sk ?_ | (refine nk hK ?_; clear hK K) | (refine nd hK ?_; clear hK K) | refine sp ?_ | refine ex ?_ | (refine gs (fun hb => ?_) (fun hb => ?_) <;> replace hb := nb hb <;> try exact noB hb) | (refine cd (fun hb => ?_) (fun hb => ?_) <;> replace hb := nb hb <;> try exact noB hb) | (with_reducible refine Exists.intro _ (And.intro rfl ?_)) | ((with_reducible refine And.intro ?_ ?_); (focus exact sdA)) | fail)
        all_goals first | (exfalso; omega) | (refine rt ?_; refine fin ?_; exact wqA)
    · rw [List.take_of_length_le (by omega)] at ha
      rw [show triesB b = true from ha]
      repeat' (first | exact absurd hb Bool.false_ne_true | exact absurd hb.symm Bool.false_ne_true | refine W.seq ?_ | refine W.block ?_ | (refine rg [] ?_; intro K hK) | (refine dr [] ?_; intro K hK) | refine oq ?_ | refine sk ?_ | (refine nk hK ?_; clear hK K) | (refine nd hK ?_; clear hK K) | refine sp ?_ | refine ex ?_ | (refine gs (fun hb => ?_) (fun hb => ?_) <;> replace hb := nb hb <;> try exact noB hb) | (refine cd (fun hb => ?_) (fun hb => ?_) <;> replace hb := nb hb <;> try exact noB hb) | (with_reducible refine Exists.intro _ (And.intro rfl ?_)) | ((with_reducible refine And.intro ?_ ?_); (focus exact sdA)) | fail)
      all_goals (refine rt ?_; refine fin ?_; exact wqA)
set_option maxHeartbeats 8000000 in
theorem fewb_fn (b : BookS) : Fn Try.prog 15 [b.v] [] (bool (fewB b)) [] := by
  refine en Try.func15 (hfr := by (simp only [Try.ntmps15, go_sem, Nat.reduceSub, Nat.reduceAdd]; rfl)) ?_
  repeat' (first | exact absurd hb Bool.false_ne_true | exact absurd hb.symm Bool.false_ne_true | refine W.seq ?_ | refine W.block ?_ | (refine rgx [2] [] ?_; intro K hK) | (refine drx [2] [] ?_; intro K hK) | refine oq ?_ | refine sk ?_ | (refine nk hK ?_; clear hK K) | (refine nd hK ?_; clear hK K) | refine sp ?_ | refine ex ?_ | (refine gs (fun hb => ?_) (fun hb => ?_) <;> replace hb := nb hb <;> try exact noB hb) | (refine cd (fun hb => ?_) (fun hb => ?_) <;> replace hb := nb hb <;> try exact noB hb) | (with_reducible refine Exists.intro _ (And.intro rfl ?_)) | ((with_reducible refine And.intro ?_ ?_); (focus exact sdA)) | fail)
  refine W.leC (i := 0) (j := 0) rfl rfl fun hm => ?_
  rw [List.length_map] at hm
  refine W.lp (ι := Nat) (fun i => (ay 1 (.ptr 0 0 :: bool false :: i64 i :: ay 69 []))) (fun _ => [.cells 25 b.cells]) (fun i => i ≤ b.steps.length ∧ (b.steps.take i).all stepB = true) (fun i => b.steps.length - i) 0 ⟨Nat.zero_le _, rfl⟩ (Ent.to ?_ rfl) ?_
  · skip
    exact wkA
  · rintro i ⟨hi, ha⟩
    by_cases hlt : i < b.steps.length
    · have hx := gdS hlt StepS.zero
      have hbad : stepB (b.steps.getD i StepS.zero) = false → fewB b = false := fun h => by unfold fewB; rw [allF hx h]; rfl
      by_cases hp : (b.steps.getD i StepS.zero).arms.length ≤ 10 ∧ (b.steps.getD i StepS.zero).send.length ≤ 300
      · obtain ⟨h1, h2⟩ := hp
        have hgood : patsB (b.steps.getD i StepS.zero).arms = true → stepB (b.steps.getD i StepS.zero) = true := fun h => by unfold stepB; rw [h, decide_eq_true ⟨h1, h2⟩]; rfl
        have hpat : patsB (b.steps.getD i StepS.zero).arms = false → stepB (b.steps.getD i StepS.zero) = false := fun h => by unfold stepB; rw [h, Bool.and_false]
        repeat' (first | exact absurd hb Bool.false_ne_true | exact absurd hb.symm Bool.false_ne_true | refine W.seq ?_ | refine W.block ?_ | (refine rgx [7] [] ?_; intro K hK) | (refine drx [7] [] ?_; intro K hK) | refine oq ?_ | refine sk ?_ | (refine nk hK ?_; clear hK K) | (refine nd hK ?_; clear hK K) | refine sp ?_ | refine ex ?_ | (refine gs (fun hb => ?_) (fun hb => ?_) <;> replace hb := nb hb <;> try exact noB hb) | (refine cd (fun hb => ?_) (fun hb => ?_) <;> replace hb := nb hb <;> try exact noB hb) | (with_reducible refine Exists.intro _ (And.intro rfl ?_)) | ((with_reducible refine And.intro ?_ ?_); (focus exact sdA)) | fail)
        refine W.lp (ι := Nat) (fun k => (ay 1 (.ptr 0 0 :: bool false :: i64 i :: i64 k :: ay 68 []))) (fun _ => [.cells 25 b.cells]) (fun k => k ≤ (b.steps.getD i StepS.zero).arms.length ∧ ((b.steps.getD i StepS.zero).arms.take k).all (fun a => decide (a.pat.length ≤ 100)) = true) (fun k => (b.steps.getD i StepS.zero).arms.length - k) 0 ⟨Nat.zero_le _, rfl⟩ (Ent.to ?_ rfl) ?_
        · skip
          exact wkA
        · rintro k ⟨hk, hka⟩
          by_cases hkl : k < (b.steps.getD i StepS.zero).arms.length
          · have hy := gdS hkl ArmS.zero
            by_cases hq : ((b.steps.getD i StepS.zero).arms.getD k ArmS.zero).pat.length ≤ 100
            · have h3 := allT hka hy (decide_eq_true hq)
              repeat' (first | exact absurd hb Bool.false_ne_true | exact absurd hb.symm Bool.false_ne_true | refine W.seq ?_ | refine W.block ?_ | (refine rg [] ?_; intro K hK) | (refine dr [] ?_; intro K hK) | refine oq ?_ | refine sk ?_ | (refine nk hK ?_; clear hK K) | (refine nd hK ?_; clear hK K) | refine sp ?_ | refine ex ?_ | (refine gs (fun hb => ?_) (fun hb => ?_) <;> replace hb := nb hb <;> try exact noB hb) | (refine cd (fun hb => ?_) (fun hb => ?_) <;> replace hb := nb hb <;> try exact noB hb) | (with_reducible refine Exists.intro _ (And.intro rfl ?_)) | ((with_reducible refine And.intro ?_ ?_); (focus exact sdA)) | fail)
              refine nx (k + 1) ⟨by omega, h3⟩ (by omega) (Ent.to ?_ rfl)
              exact wkA
            · rw [hbad (hpat (allF hy (decide_eq_false hq)))]
              repeat' (first | exact absurd hb Bool.false_ne_true | exact absurd hb.symm Bool.false_ne_true | refine W.seq ?_ | refine W.block ?_ | (refine rg [] ?_; intro K hK) | (refine dr [] ?_; intro K hK) | refine oq ?_ | refine sk ?_ | (refine nk hK ?_; clear hK K) | (refine nd hK ?_; clear hK K) | refine sp ?_ | refine ex ?_ | (refine gs (fun hb => ?_) (fun hb => ?_) <;> replace hb := nb hb <;> try exact noB hb) | (refine cd (fun hb => ?_) (fun hb => ?_) <;> replace hb := nb hb <;> try exact noB hb) | (with_reducible refine Exists.intro _ (And.intro rfl ?_)) | ((with_reducible refine And.intro ?_ ?_); (focus exact sdA)) | fail)
              all_goals (refine rt ?_; refine fin ?_; exact wqA)
          · rw [List.take_of_length_le (by omega)] at hka
            have h3 := allT ha hx (hgood hka)
            repeat' (first | exact absurd hb Bool.false_ne_true | exact absurd hb.symm Bool.false_ne_true | refine W.seq ?_ | refine W.block ?_ | (refine rg [] ?_; intro K hK) | (refine dr [] ?_; intro K hK) | refine oq ?_ | refine sk ?_ | (refine nk hK ?_; clear hK K) | (refine nd hK ?_; clear hK K) | refine sp ?_ | refine ex ?_ | (refine gs (fun hb => ?_) (fun hb => ?_) <;> replace hb := nb hb <;> try exact noB hb) | (refine cd (fun hb => ?_) (fun hb => ?_) <;> replace hb := nb hb <;> try exact noB hb) | (with_reducible refine Exists.intro _ (And.intro rfl ?_)) | ((with_reducible refine And.intro ?_ ?_); (focus exact sdA)) | fail)
            refine nx (i + 1) ⟨by omega, h3⟩ (by omega) (Ent.to ?_ rfl)
            exact wkA
      · rw [hbad (by unfold stepB; rw [decide_eq_false hp]; rfl)]
        repeat' (first | exact absurd hb Bool.false_ne_true | exact absurd hb.symm Bool.false_ne_true | refine W.seq ?_ | refine W.block ?_ | (refine rg [] ?_; intro K hK) | (refine dr [] ?_; intro K hK) | refine oq ?_ | refine sk ?_ | (refine nk hK ?_; clear hK K) | (refine nd hK ?_; clear hK K) | refine sp ?_ | refine ex ?_ | (refine gs (fun hb => ?_) (fun hb => ?_) <;> replace hb := nb hb <;> try exact noB hb) | (refine cd (fun hb => ?_) (fun hb => ?_) <;> replace hb := nb hb <;> try exact noB hb) | (with_reducible refine Exists.intro _ (And.intro rfl ?_)) | ((with_reducible refine And.intro ?_ ?_); (focus exact sdA)) | fail)
        all_goals first | (exfalso; omega) | (refine rt ?_; refine fin ?_; exact wqA)
    · rw [List.take_of_length_le (by omega)] at ha
      have hf : fewB b = decide (b.steps.length ≤ 35 ∧ b.vars.length ≤ 20 ∧ b.most < 1000000 ∧ -1000000 < b.most) := by unfold fewB; rw [ha, Bool.true_and]
      rw [hf]
      repeat' (first | exact absurd hb Bool.false_ne_true | exact absurd hb.symm Bool.false_ne_true | refine W.seq ?_ | refine W.block ?_ | (refine rg [] ?_; intro K hK) | (refine dr [] ?_; intro K hK) | refine oq ?_ | refine sk ?_ | (refine nk hK ?_; clear hK K) | (refine nd hK ?_; clear hK K) | refine sp ?_ | refine ex ?_ | (refine gs (fun hb => ?_) (fun hb => ?_) <;> replace hb := nb hb <;> try exact noB hb) | (refine cd (fun hb => ?_) (fun hb => ?_) <;> replace hb := nb hb <;> try exact noB hb) | (with_reducible refine Exists.intro _ (And.intro rfl ?_)) | ((with_reducible refine And.intro ?_ ?_); (focus exact sdA)) | fail)
      all_goals (refine rt ?_; refine fin ?_; refine Wk.bool ?_; rw [Bool.eq_iff_iff]; simp only [decide_eq_true_eq, Bool.false_eq_true, false_iff]; omega)
def fewSB (s : StS) : Bool := (s.vars.all fun v => decide (v.length ≤ 300)) && decide (s.vars.length ≤ 20)
set_option maxHeartbeats 4000000 in
theorem fews_fn (s : StS) : Fn Try.prog 19 [s.v] [] (bool (fewSB s)) [] := by
  refine en Try.func19 (hfr := by (simp only [Try.ntmps19, go_sem, Nat.reduceSub, Nat.reduceAdd]; rfl)) ?_
  repeat' (first | exact absurd hb Bool.false_ne_true | exact absurd hb.symm Bool.false_ne_true | refine W.seq ?_ | refine W.block ?_ | (refine rgx [2] [] ?_; intro K hK) | (refine drx [2] [] ?_; intro K hK) | refine oq ?_ | refine sk ?_ | (refine nk hK ?_; clear hK K) | (refine nd hK ?_; clear hK K) | refine sp ?_ | refine ex ?_ | (refine gs (fun hb => ?_) (fun hb => ?_) <;> replace hb := nb hb <;> try exact noB hb) | (refine cd (fun hb => ?_) (fun hb => ?_) <;> replace hb := nb hb <;> try exact noB hb) | (with_reducible refine Exists.intro _ (And.intro rfl ?_)) | ((with_reducible refine And.intro ?_ ?_); (focus exact sdA)) | fail)
  refine W.leC (i := 0) (j := 4) rfl rfl fun hm => ?_
  rw [List.length_map] at hm
  refine W.lp (ι := Nat) (fun i => (ay 1 (.ptr 0 0 :: bool false :: i64 i :: ay 18 []))) (fun _ => [.cells 31 s.cells]) (fun i => i ≤ s.vars.length ∧ (s.vars.take i).all (fun v => decide (v.length ≤ 300)) = true) (fun i => s.vars.length - i) 0 ⟨Nat.zero_le _, rfl⟩ (Ent.to ?_ rfl) ?_
  · skip
    exact wkA
  · rintro i ⟨hi, ha⟩
    by_cases hlt : i < s.vars.length
    · have hx := gdS hlt ([] : List UInt8)
      by_cases hp : (s.vars.getD i []).length ≤ 300
      · have h3 := allT ha hx (decide_eq_true hp)
        repeat' (first | exact absurd hb Bool.false_ne_true | exact absurd hb.symm Bool.false_ne_true | refine W.seq ?_ | refine W.block ?_ | (refine rg [] ?_; intro K hK) | (refine dr [] ?_; intro K hK) | refine oq ?_ | refine sk ?_ | (refine nk hK ?_; clear hK K) | (refine nd hK ?_; clear hK K) | refine sp ?_ | refine ex ?_ | (refine gs (fun hb => ?_) (fun hb => ?_) <;> replace hb := nb hb <;> try exact noB hb) | (refine cd (fun hb => ?_) (fun hb => ?_) <;> replace hb := nb hb <;> try exact noB hb) | (with_reducible refine Exists.intro _ (And.intro rfl ?_)) | ((with_reducible refine And.intro ?_ ?_); (focus exact sdA)) | fail)
        refine nx (i + 1) ⟨by omega, h3⟩ (by omega) (Ent.to ?_ rfl)
        exact wkA
      · rw [show fewSB s = false by unfold fewSB; rw [allF hx (decide_eq_false hp)]; rfl]
        repeat' (first | exact absurd hb Bool.false_ne_true | exact absurd hb.symm Bool.false_ne_true | refine W.seq ?_ | refine W.block ?_ | (refine rg [] ?_; intro K hK) | (refine dr [] ?_; intro K hK) | refine oq ?_ | refine sk ?_ | (refine nk hK ?_; clear hK K) | (refine nd hK ?_; clear hK K) | refine sp ?_ | refine ex ?_ | (refine gs (fun hb => ?_) (fun hb => ?_) <;> replace hb := nb hb <;> try exact noB hb) | (refine cd (fun hb => ?_) (fun hb => ?_) <;> replace hb := nb hb <;> try exact noB hb) | (with_reducible refine Exists.intro _ (And.intro rfl ?_)) | ((with_reducible refine And.intro ?_ ?_); (focus exact sdA)) | fail)
        all_goals (refine rt ?_; refine fin ?_; exact wqA)
    · rw [List.take_of_length_le (by omega)] at ha
      rw [show fewSB s = decide (s.vars.length ≤ 20) by unfold fewSB; rw [ha, Bool.true_and]]
      repeat' (first | exact absurd hb Bool.false_ne_true | exact absurd hb.symm Bool.false_ne_true | refine W.seq ?_ | refine W.block ?_ | (refine rg [] ?_; intro K hK) | (refine dr [] ?_; intro K hK) | refine oq ?_ | refine sk ?_ | (refine nk hK ?_; clear hK K) | (refine nd hK ?_; clear hK K) | refine sp ?_ | refine ex ?_ | (refine gs (fun hb => ?_) (fun hb => ?_) <;> replace hb := nb hb <;> try exact noB hb) | (refine cd (fun hb => ?_) (fun hb => ?_) <;> replace hb := nb hb <;> try exact noB hb) | (with_reducible refine Exists.intro _ (And.intro rfl ?_)) | ((with_reducible refine And.intro ?_ ?_); (focus exact sdA)) | fail)
      refine rt ?_
      refine fin ?_
      refine Wk.bool ?_
      rw [Bool.eq_iff_iff]
      simp only [decide_eq_true_eq]
      omega
/-- The least book. -/
def pl : BookS := ⟨[⟨[97], 0, [], [], 1, 0, -2⟩], [], 5⟩
theorem plain_fn : Fn Try.prog 72 [] [] pl.v [] := by
  refine en Try.func72 (hfr := by (simp only [Try.ntmps72, go_sem, Nat.reduceSub, Nat.reduceAdd]; rfl)) ?_
  repeat' (first | exact absurd hb Bool.false_ne_true | exact absurd hb.symm Bool.false_ne_true | refine W.seq ?_ | refine W.block ?_ | (refine rg [] ?_; intro K hK) | (refine dr [] ?_; intro K hK) | refine oq ?_ | refine sk ?_ | (refine nk hK ?_; clear hK K) | (refine nd hK ?_; clear hK K) | refine sp ?_ | refine ex ?_ | (refine gs (fun hb => ?_) (fun hb => ?_) <;> replace hb := nb hb <;> try exact noB hb) | (refine cd (fun hb => ?_) (fun hb => ?_) <;> replace hb := nb hb <;> try exact noB hb) | (with_reducible refine Exists.intro _ (And.intro rfl ?_)) | ((with_reducible refine And.intro ?_ ?_); (focus exact sdA)) | fail)
  all_goals (refine rt ?_; refine fin ?_; exact wqA)
theorem pl_ok : pl.ok := ⟨by decide, by decide, by decide, by decide, by decide⟩
def w1 : RecS := ⟨2, 0, 0, 0, 0, [], 1, 0, 0, 0, 0, 0, []⟩
def w2 : RecS := ⟨3, 0, 0, 0, 0, [], 1, 0, 0, -2, 0, -1, []⟩
def w3 : RecS := ⟨2, 0, 0, 0, 0, [], 2, 0, 0, 0, 0, 0, []⟩
def t1 : StS := ⟨0, 1, 1, 0, []⟩
def t2 : StS := ⟨-2, 2, 0, 0, []⟩
set_option maxHeartbeats 4000000 in
theorem fknows_fn : Fn Try.prog 17 [] [] (bool true) [] := by
  have cp := plain_fn
  have cs := start_fn pl (by decide)
  have c1 := next_fn pl pl.start w1 pl_ok
  have c2 := next_fn pl t1 w2 pl_ok
  have c3 := next_fn pl t2 w3 pl_ok
  rw [if_pos (by decide : nextOK pl pl.start w1), show nextS pl pl.start w1 = t1 by decide] at c1
  rw [if_pos (by decide : nextOK pl t1 w2), show nextS pl t1 w2 = t2 by decide] at c2
  rw [if_neg (by decide : ¬ nextOK pl t2 w3), show nextS pl t2 w3 = StS.zero by decide] at c3
  unfold RecS.v StS.v at c1 c2 c3
  rw [show w1.cells = [i64 2, i64 0, i64 0, i64 0, i64 0, texts [], i64 1, i64 0, i64 0, i64 0, i64 0, i64 0, bytes []] from rfl, show t1.cells = [i64 0, i64 1, i64 1, i64 0, texts []] from rfl] at c1
  rw [show w2.cells = [i64 3, i64 0, i64 0, i64 0, i64 0, texts [], i64 1, i64 0, i64 0, i64 (-2), i64 0, i64 (-1), bytes []] from rfl, show t1.cells = [i64 0, i64 1, i64 1, i64 0, texts []] from rfl, show t2.cells = [i64 (-2), i64 2, i64 0, i64 0, texts []] from rfl] at c2
  rw [show w3.cells = [i64 2, i64 0, i64 0, i64 0, i64 0, texts [], i64 2, i64 0, i64 0, i64 0, i64 0, i64 0, bytes []] from rfl, show t2.cells = [i64 (-2), i64 2, i64 0, i64 0, texts []] from rfl, show StS.zero.cells = [i64 0, i64 0, i64 0, i64 0, texts []] from rfl] at c3
  refine en Try.func17 (hfr := by (simp only [Try.ntmps17, go_sem, Nat.reduceSub, Nat.reduceAdd]; rfl)) ?_
  repeat' (first | exact absurd hb Bool.false_ne_true | exact absurd hb.symm Bool.false_ne_true | refine W.seq ?_ | refine W.block ?_ | (refine rg [] ?_; intro K hK) | (refine dr [] ?_; intro K hK) | refine cl (cp) ?_ | refine cl (cs) ?_ | refine cl (c1) ?_ | refine cl (c2) ?_ | refine cl (c3) ?_ | refine oq ?_ | refine sk ?_ | (refine nk hK ?_; clear hK K) | (refine nd hK ?_; clear hK K) | refine sp ?_ | refine ex ?_ | (refine gs (fun hb => ?_) (fun hb => ?_) <;> replace hb := nb hb <;> try exact noB hb) | (refine cd (fun hb => ?_) (fun hb => ?_) <;> replace hb := nb hb <;> try exact noB hb) | (with_reducible refine Exists.intro _ (And.intro rfl ?_)) | ((with_reducible refine And.intro ?_ ?_); (focus exact sdA)) | fail)
  all_goals (refine rt ?_; refine fin ?_; exact wqA)
end Go.Proofs.Ytpmbeldmclcjlaa.Vs
