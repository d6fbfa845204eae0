/- records: their fields, as pointers; records: what is one's own; alike. -/
import Derived.Test.YtpmbeldmclcjlaaVrC
import Derived.Test.YtpmbeldmclcjlaaVsZ
set_option linter.unusedVariables false
set_option linter.unusedSimpArgs false
namespace Go.Proofs.Ytpmbeldmclcjlaa.Vs
open Go.RowKit
set_option maxRecDepth 100000
/-- A number's place: where, from, to, more, bytes. -/
abbrev fdl (i j : Nat) (lo hi add width : Int) : List V := [.ptr i j, i64 lo, i64 hi, i64 add, i64 width]
theorem fields1_fn (j : Nat) (r : RecS) : Fn Try.prog 135 [.ptr 0 j] [.cells 35 r.cells] (.agg (fdl 0 j 1 1001 0 2)) [.cells 35 r.cells] := by
  refine en Try.func135 (hfr := by (simp only [Try.ntmps135, go_sem, Nat.reduceSub, Nat.reduceAdd]; rfl)) ?_
  repeat' (first | exact absurd hb Bool.false_ne_true | exact absurd hb.symm Bool.false_ne_true | refine W.seq ?_ | refine W.block ?_ | (refine rg [] ?_; intro K hK) | (refine dr [] ?_; intro K hK) | refine oq ?_ | refine sk ?_ | (refine nk hK ?_; clear hK K) | (refine nd hK ?_; clear hK K) | refine sp ?_ | refine ex ?_ | (refine gs (fun hb => ?_) (fun hb => ?_) <;> replace hb := nb hb <;> try exact noB hb) | (refine cd (fun hb => ?_) (fun hb => ?_) <;> replace hb := nb hb <;> try exact noB hb) | (with_reducible refine Exists.intro _ (And.intro rfl ?_)) | ((with_reducible refine And.intro ?_ ?_); (focus exact sdA)) | fail)
  all_goals (refine rt ?_; refine fin ?_; exact wqA)
theorem fields2_fn (j : Nat) (r : RecS) : Fn Try.prog 136 [.ptr 0 j] [.cells 35 r.cells] (.agg (fdl 0 j 0 2147483647 0 4)) [.cells 35 r.cells] := by
  refine en Try.func136 (hfr := by (simp only [Try.ntmps136, go_sem, Nat.reduceSub, Nat.reduceAdd]; rfl)) ?_
  repeat' (first | exact absurd hb Bool.false_ne_true | exact absurd hb.symm Bool.false_ne_true | refine W.seq ?_ | refine W.block ?_ | (refine rg [] ?_; intro K hK) | (refine dr [] ?_; intro K hK) | refine oq ?_ | refine sk ?_ | (refine nk hK ?_; clear hK K) | (refine nd hK ?_; clear hK K) | refine sp ?_ | refine ex ?_ | (refine gs (fun hb => ?_) (fun hb => ?_) <;> replace hb := nb hb <;> try exact noB hb) | (refine cd (fun hb => ?_) (fun hb => ?_) <;> replace hb := nb hb <;> try exact noB hb) | (with_reducible refine Exists.intro _ (And.intro rfl ?_)) | ((with_reducible refine And.intro ?_ ?_); (focus exact sdA)) | fail)
  all_goals (refine rt ?_; refine fin ?_; exact wqA)
/-- The numbers of each kind: cell, from, to, more, bytes. -/
abbrev flds1 (i : Nat) : List V := [.ptr i 1, i64 (-3), i64 29, i64 3, i64 1, .ptr i 2, i64 1, i64 1001, i64 0, i64 2, .ptr i 3, i64 0, i64 6, i64 0, i64 1, .ptr i 4, i64 0, i64 2147483647, i64 0, i64 4]
abbrev flds2 (i : Nat) : List V := [.ptr i 6, i64 1, i64 1001, i64 0, i64 2, .ptr i 7, i64 0, i64 29, i64 0, i64 1, .ptr i 8, i64 0, i64 5, i64 0, i64 1]
abbrev flds3 (i : Nat) : List V := [.ptr i 6, i64 1, i64 1001, i64 0, i64 2, .ptr i 9, i64 (-3), i64 29, i64 3, i64 1, .ptr i 10, i64 0, i64 2147483647, i64 0, i64 4, .ptr i 11, i64 (-1), i64 7, i64 1, i64 1]
theorem fields_fn1 (r : RecS) (h : r.kind = 1) : Fn Try.prog 76 [.ptr 0 0] [.cells 35 r.cells] (.row 1 0 4 4) [.cells 35 r.cells, .cells 144 (flds1 0)] := by
  refine en Try.func76 (hfr := by (simp only [Try.ntmps76, go_sem, Nat.reduceSub, Nat.reduceAdd]; rfl)) ?_
  repeat' (first | exact absurd hb Bool.false_ne_true | exact absurd hb.symm Bool.false_ne_true | refine W.seq ?_ | refine W.block ?_ | (refine rg [33] ?_; intro K hK) | (refine dr [33] ?_; intro K hK) | refine cle [0] 0 (fields1_fn 2 r) ?_ | refine cle [0] 0 (fields2_fn 4 r) ?_ | refine oq ?_ | refine sk ?_ | (refine nk hK ?_; clear hK K) | (refine nd hK ?_; clear hK K) | refine sp ?_ | refine ex ?_ | (refine gs (fun hb => ?_) (fun hb => ?_) <;> replace hb := nb hb <;> try exact noB hb) | (refine cd (fun hb => ?_) (fun hb => ?_) <;> replace hb := nb hb <;> try exact noB hb) | (with_reducible refine Exists.intro _ (And.intro rfl ?_)) | ((with_reducible refine And.intro ?_ ?_); (focus exact sdA)) | fail)
  all_goals (refine rt ?_; refine fin ?_; exact wqA)
theorem fields_fn2 (r : RecS) (h : r.kind = 2) : Fn Try.prog 76 [.ptr 0 0] [.cells 35 r.cells] (.row 1 0 3 3) [.cells 35 r.cells, .cells 144 (flds2 0)] := by
  have h1 : ¬ r.kind = 1 := by omega
  refine en Try.func76 (hfr := by (simp only [Try.ntmps76, go_sem, Nat.reduceSub, Nat.reduceAdd]; rfl)) ?_
  repeat' (first | exact absurd hb Bool.false_ne_true | exact absurd hb.symm Bool.false_ne_true | refine W.seq ?_ | refine W.block ?_ | (refine rg [49] ?_; intro K hK) | (refine dr [49] ?_; intro K hK) | refine cle [0] 0 (fields1_fn 6 r) ?_ | refine oq ?_ | refine sk ?_ | (refine nk hK ?_; clear hK K) | (refine nd hK ?_; clear hK K) | refine sp ?_ | refine ex ?_ | (refine gs (fun hb => ?_) (fun hb => ?_) <;> replace hb := nb hb <;> try exact noB hb) | (refine cd (fun hb => ?_) (fun hb => ?_) <;> replace hb := nb hb <;> try exact noB hb) | (with_reducible refine Exists.intro _ (And.intro rfl ?_)) | ((with_reducible refine And.intro ?_ ?_); (focus exact sdA)) | fail)
  all_goals (refine rt ?_; refine fin ?_; exact wqA)
theorem fields_fn3 (r : RecS) (h : r.kind = 3) : Fn Try.prog 76 [.ptr 0 0] [.cells 35 r.cells] (.row 1 0 4 4) [.cells 35 r.cells, .cells 144 (flds3 0)] := by
  have h1 : ¬ r.kind = 1 := by omega
  have h2 : ¬ r.kind = 2 := by omega
  refine en Try.func76 (hfr := by (simp only [Try.ntmps76, go_sem, Nat.reduceSub, Nat.reduceAdd]; rfl)) ?_
  repeat' (first | exact absurd hb Bool.false_ne_true | exact absurd hb.symm Bool.false_ne_true | refine W.seq ?_ | refine W.block ?_ | (refine rg [70] ?_; intro K hK) | (refine dr [70] ?_; intro K hK) | refine cle [0] 0 (fields1_fn 6 r) ?_ | refine cle [0] 0 (fields2_fn 10 r) ?_ | refine oq ?_ | refine sk ?_ | (refine nk hK ?_; clear hK K) | (refine nd hK ?_; clear hK K) | refine sp ?_ | refine ex ?_ | (refine gs (fun hb => ?_) (fun hb => ?_) <;> replace hb := nb hb <;> try exact noB hb) | (refine cd (fun hb => ?_) (fun hb => ?_) <;> replace hb := nb hb <;> try exact noB hb) | (with_reducible refine Exists.intro _ (And.intro rfl ?_)) | ((with_reducible refine And.intro ?_ ?_); (focus exact sdA)) | fail)
  all_goals (refine rt ?_; refine fin ?_; exact wqA)
theorem fields_fn0 (r : RecS) (h1 : ¬ r.kind = 1) (h2 : ¬ r.kind = 2) (h3 : ¬ r.kind = 3) : Fn Try.prog 76 [.ptr 0 0] [.cells 35 r.cells] .nil [.cells 35 r.cells] := by
  refine en Try.func76 (hfr := by (simp only [Try.ntmps76, go_sem, Nat.reduceSub, Nat.reduceAdd]; rfl)) ?_
  repeat' (first | exact absurd hb Bool.false_ne_true | exact absurd hb.symm Bool.false_ne_true | refine W.seq ?_ | refine W.block ?_ | (refine rg [] ?_; intro K hK) | (refine dr [] ?_; intro K hK) | refine oq ?_ | refine sk ?_ | (refine nk hK ?_; clear hK K) | (refine nd hK ?_; clear hK K) | refine sp ?_ | refine ex ?_ | (refine gs (fun hb => ?_) (fun hb => ?_) <;> replace hb := nb hb <;> try exact noB hb) | (refine cd (fun hb => ?_) (fun hb => ?_) <;> replace hb := nb hb <;> try exact noB hb) | (with_reducible refine Exists.intro _ (And.intro rfl ?_)) | ((with_reducible refine And.intro ?_ ?_); (focus exact sdA)) | fail)
  all_goals (refine rt ?_; refine fin ?_; exact wqA)
def RecS.own (r : RecS) : RecS :=
  if r.kind = 1 then { kind := 1, step := r.step, visit := r.visit, tries := r.tries, off := r.off, vars := r.vars, vis := 0, st := 0, try' := 0, to := 0, ofs := 0, vr := 0, value := [] }
  else if r.kind = 2 then { kind := 2, step := 0, visit := 0, tries := 0, off := 0, vars := [], vis := r.vis, st := r.st, try' := r.try', to := 0, ofs := 0, vr := 0, value := [] }
  else if r.kind = 3 then { kind := 3, step := 0, visit := 0, tries := 0, off := 0, vars := [], vis := r.vis, st := 0, try' := 0, to := r.to, ofs := r.ofs, vr := r.vr, value := r.value }
  else { kind := 0, step := 0, visit := 0, tries := 0, off := 0, vars := [], vis := 0, st := 0, try' := 0, to := 0, ofs := 0, vr := 0, value := [] }
theorem own_fn (r : RecS) : Fn Try.prog 81 [r.v] [] r.own.v [] := by
  refine en Try.func81 (hfr := by (simp only [Try.ntmps81, go_sem, Nat.reduceSub, Nat.reduceAdd]; rfl)) ?_
  repeat' (first | exact absurd hb Bool.false_ne_true | exact absurd hb.symm Bool.false_ne_true | refine W.seq ?_ | refine W.block ?_ | (refine rg [] ?_; intro K hK) | (refine dr [] ?_; intro K hK) | refine oq ?_ | refine sk ?_ | (refine nk hK ?_; clear hK K) | (refine nd hK ?_; clear hK K) | refine sp ?_ | refine ex ?_ | (refine gs (fun hb => ?_) (fun hb => ?_) <;> replace hb := nb hb <;> try exact noB hb) | (refine cd (fun hb => ?_) (fun hb => ?_) <;> replace hb := nb hb <;> try exact noB hb) | (with_reducible refine Exists.intro _ (And.intro rfl ?_)) | ((with_reducible refine And.intro ?_ ?_); (focus exact sdA)) | fail)
  · rw [show r.own = _ from if_pos hb]
    all_goals (refine rt ?_; refine fin ?_; exact wqA)
  · rw [show r.own = _ from (if_neg ‹¬ r.kind = 1›).trans (if_pos hb)]
    all_goals (refine rt ?_; refine fin ?_; exact wqA)
  · rw [show r.own = _ from (if_neg ‹¬ r.kind = 1›).trans ((if_neg ‹¬ r.kind = 2›).trans (if_pos hb))]
    all_goals (refine rt ?_; refine fin ?_; exact wqA)
  · rw [show r.own = _ from (if_neg ‹¬ r.kind = 1›).trans ((if_neg ‹¬ r.kind = 2›).trans (if_neg hb))]
    all_goals (refine rt ?_; refine fin ?_; exact wqA)
abbrev RecS.ints (r : RecS) : List Int := [r.kind, r.step, r.visit, r.tries, r.off, r.vis, r.st, r.try', r.to, r.ofs, r.vr]
theorem ints_fn (r : RecS) : Fn Try.prog 137 [r.v] [] (.agg [i64 r.kind, i64 r.step, i64 r.visit, i64 r.tries, i64 r.off, i64 r.vis, i64 r.st, i64 r.try', i64 r.to, i64 r.ofs, i64 r.vr]) [] := by
  refine en Try.func137 (hfr := by (simp only [Try.ntmps137, go_sem, Nat.reduceSub, Nat.reduceAdd]; rfl)) ?_
  repeat' (first | exact absurd hb Bool.false_ne_true | exact absurd hb.symm Bool.false_ne_true | refine W.seq ?_ | refine W.block ?_ | (refine rg [] ?_; intro K hK) | (refine dr [] ?_; intro K hK) | ((refine opArr ?_)) | refine oq ?_ | refine sk ?_ | (refine nk hK ?_; clear hK K) | (refine nd hK ?_; clear hK K) | refine sp ?_ | refine ex ?_ | (refine gs (fun hb => ?_) (fun hb => ?_) <;> replace hb := nb hb <;> try exact noB hb) | (refine cd (fun hb => ?_) (fun hb => ?_) <;> replace hb := nb hb <;> try exact noB hb) | (with_reducible refine Exists.intro _ (And.intro rfl ?_)) | ((with_reducible refine And.intro ?_ ?_); (focus exact sdA)) | fail)
  all_goals (refine rt ?_; refine fin ?_; exact wqA)
deriving instance DecidableEq for RecS
theorem same_iff (a b : RecS) : a = b ↔ a.ints = b.ints ∧ a.value = b.value ∧ a.vars = b.vars := by
  obtain ⟨⟩ := a
  obtain ⟨⟩ := b
  simp only [RecS.mk.injEq, RecS.ints, List.cons.injEq, and_true]
  constructor
  · rintro ⟨rfl, rfl, rfl, rfl, rfl, rfl, rfl, rfl, rfl, rfl, rfl, rfl, rfl⟩
    simp
  · rintro ⟨⟨rfl, rfl, rfl, rfl, rfl, rfl, rfl, rfl, rfl, rfl, rfl⟩, rfl, rfl⟩
    simp
theorem same_fn (a b : RecS) : Fn Try.prog 80 [a.v, b.v] [] (bool (decide (a = b))) [] := by
  have c1 := ints_fn a
  have c2 := ints_fn b
  have c3 := bequal_fn a.value b.value
  have c4 := equalFunc_fn a.vars b.vars
  have hs := same_iff a b
  refine en Try.func80 (hfr := by (simp only [Try.ntmps80, go_sem, Nat.reduceSub, Nat.reduceAdd]; rfl)) ?_
  repeat' (first | exact absurd hb Bool.false_ne_true | exact absurd hb.symm Bool.false_ne_true | refine W.seq ?_ | refine W.block ?_ | (refine rg [] ?_; intro K hK) | (refine dr [] ?_; intro K hK) | refine cl (c1) ?_ | refine cl (c2) ?_ | refine cl (c3) ?_ | refine cl (c4) ?_ | ((refine ⟨a.ints, b.ints, rfl, rfl, ?_⟩)) | refine oq ?_ | refine sk ?_ | (refine nk hK ?_; clear hK K) | (refine nd hK ?_; clear hK K) | refine sp ?_ | refine ex ?_ | (refine gs (fun hb => ?_) (fun hb => ?_) <;> replace hb := nb hb <;> try exact noB hb) | (refine cd (fun hb => ?_) (fun hb => ?_) <;> replace hb := nb hb <;> try exact noB hb) | (with_reducible refine Exists.intro _ (And.intro rfl ?_)) | ((with_reducible refine And.intro ?_ ?_); (focus exact sdA)) | fail)
  all_goals (refine rt ?_; refine fin ?_; refine Wk.bool ?_; rw [Bool.eq_iff_iff]; simp only [decide_eq_true_eq, Bool.false_eq_true, hs])
  · exact ⟨fun h => ⟨‹_›, hb, h⟩, fun h => h.2.2⟩
  · exact ⟨fun h => h.elim, fun h => hb h.2.1⟩
  · exact ⟨fun h => h.elim, fun h => hb h.1⟩
end Go.Proofs.Ytpmbeldmclcjlaa.Vs
