/- instructions: what ops come to, in plain Lean; instructions, as the document says: may ops be done, and how many instructions they have; instructions: one op, whatever it is. -/
import Derived.Test.YtgebfcdcpmmgnaaVnD
set_option linter.unusedVariables false
set_option linter.unusedSimpArgs false
namespace Go.Proofs.Ytgebfcdcpmmgnaa.Vs
open Go.RowKit
set_option maxRecDepth 100000
/-- The pile, its top first, and how many instructions there are. -/
abbrev Pile := List (List InstS) × Int
def stepN (o : OpS) (p : Pile) : Option Pile :=
  if o.kind = 1 then some (lay (p.2 + 1) [⟨1, 0, 0, o.not, o.spans⟩] :: p.1, p.2 + 1)
  else if o.kind = 2 then some (lay p.2 [] :: p.1, p.2)
  else if o.kind = 3 then (match p.1 with | b :: a :: r => some (lay p.2 (a ++ b) :: r, p.2) | _ => none)
  else if o.kind = 4 then (match p.1 with | b :: a :: r => some (lay (p.2 + 2) (altL a b) :: r, p.2 + 2) | _ => none)
  else if o.kind = 5 then (match p.1 with | a :: r => some (lay (p.2 + 2) (starL a) :: r, p.2 + 2) | _ => none)
  else if o.kind = 6 then (match p.1 with | a :: r => some (lay (p.2 + 1) (plusL a) :: r, p.2 + 1) | _ => none)
  else if o.kind = 7 then (match p.1 with | a :: r => some (lay (p.2 + 1) (optL a) :: r, p.2 + 1) | _ => none)
  else none
def runN : List OpS → Pile → Option Pile
  | [], p => some p
  | o :: l, p => (stepN o p).bind (runN l)
theorem runN_snoc (l : List OpS) (o : OpS) (p : Pile) : runN (l ++ [o]) p = (runN l p).bind (stepN o) := by
  induction l generalizing p with
  | nil =>
    show (stepN o p).bind some = stepN o p
    cases stepN o p <;> rfl
  | cons x l ih =>
    show (stepN x p).bind (runN (l ++ [o])) = ((stepN x p).bind (runN l)).bind (stepN o)
    cases stepN x p with
    | none => rfl
    | some q => exact ih q
theorem runN_none (l m : List OpS) (p : Pile) (h : runN l p = none) : runN (l ++ m) p = none := by
  induction l generalizing p with
  | nil => cases h
  | cons x l ih =>
    have h : (stepN x p).bind (runN l) = none := h
    show (stepN x p).bind (runN (l ++ m)) = none
    cases hq : stepN x p with
    | none => rfl
    | some q => rw [hq] at h; exact ih q h
/-- All pieces together. -/
def total (l : List (List InstS)) : Nat := (l.map List.length).sum
theorem total_cons (x : List InstS) (l : List (List InstS)) : total (x :: l) = x.length + total l := by simp [total]
theorem lay_len (m : Int) (l : List InstS) : (lay m l).length ≤ l.length := by unfold lay; split <;> simp
/-- Pieces are never more than were counted; each op adds two at most. -/
theorem stepN_fit {o : OpS} {p q : Pile} (h : stepN o p = some q) (hp : (total p.1 : Int) ≤ p.2) : (total q.1 : Int) ≤ q.2 ∧ p.2 ≤ q.2 ∧ q.2 ≤ p.2 + 2 ∧ q.1.length ≤ p.1.length + 1 := by
  obtain ⟨st, m⟩ := p
  unfold stepN at h
  simp only at h hp
  have key : ∀ (m' : Int) (l : List InstS) (r : List (List InstS)) (n : Nat), some (lay m' l :: r, m') = some q → l.length + total r ≤ n → (n : Int) ≤ m' → m ≤ m' → m' ≤ m + 2 → r.length ≤ st.length → (total q.1 : Int) ≤ q.2 ∧ m ≤ q.2 ∧ q.2 ≤ m + 2 ∧ q.1.length ≤ st.length + 1 := fun m' l r n hq h1 h2 h3 h4 h5 => by
    injection hq with hq
    subst hq
    have := lay_len m' l
    simp only [total_cons, List.length_cons]
    omega
  split at h
  · exact key _ _ _ (1 + total st) h (by simp) (by omega) (by omega) (by omega) (Nat.le_refl _)
  split at h
  · exact key _ _ _ (total st) h (by simp) (by omega) (by omega) (by omega) (Nat.le_refl _)
  split at h
  · split at h
    · rename_i b a r
      simp only [total_cons] at hp
      exact key _ _ _ (a.length + b.length + total r) h (by simp) (by omega) (by omega) (by omega) (by simp; omega)
    · cases h
  split at h
  · split at h
    · rename_i b a r
      simp only [total_cons] at hp
      exact key _ _ _ (a.length + b.length + 2 + total r) h (by simp [altL]; omega) (by omega) (by omega) (by omega) (by simp; omega)
    · cases h
  split at h
  · split at h
    · rename_i a r
      simp only [total_cons] at hp
      exact key _ _ _ (a.length + 2 + total r) h (by simp [starL]) (by omega) (by omega) (by omega) (by simp)
    · cases h
  split at h
  · split at h
    · rename_i a r
      simp only [total_cons] at hp
      exact key _ _ _ (a.length + 1 + total r) h (by simp [plusL]) (by omega) (by omega) (by omega) (by simp)
    · cases h
  split at h
  · split at h
    · rename_i a r
      simp only [total_cons] at hp
      exact key _ _ _ (a.length + 1 + total r) h (by simp [optL]) (by omega) (by omega) (by omega) (by simp)
    · cases h
  · cases h
def takesI (k : Int) : Int := if k = 1 ∨ k = 2 then 0 else if k = 3 ∨ k = 4 then 2 else if k = 5 ∨ k = 6 ∨ k = 7 then 1 else -1
theorem takes_fn (k : Int) : Fn Try.prog 109 [i64 k] [] (i64 (takesI k)) [] := by
  refine en Try.func109 (hfr := by (simp only [Try.ntmps109, go_sem, Nat.reduceSub, Nat.reduceAdd]; rfl)) ?_
  repeat' (first | exact absurd hb Bool.false_ne_true | exact absurd hb.symm Bool.false_ne_true | refine W.seq ?_ | refine W.block ?_ | (refine rg [] ?_; intro K hK) | (refine dr [] ?_; intro K hK) | refine oq ?_ | refine sk ?_ | (refine nk hK ?_; clear hK K) | (refine nd hK ?_; clear hK K) | refine sp ?_ | refine ex ?_ | (refine gs (fun hb => ?_) (fun hb => ?_) <;> replace hb := nb hb <;> try exact noB hb) | (refine cd (fun hb => ?_) (fun hb => ?_) <;> replace hb := nb hb <;> try exact noB hb) | (with_reducible refine Exists.intro _ (And.intro rfl ?_)) | ((with_reducible refine And.intro ?_ ?_); (focus exact sdA)) | fail)
  all_goals (refine rt ?_; refine fin ?_; refine Wk.int ?_; unfold takesI; (repeat' split) <;> omega)
def cntS (s : Option Int) (o : OpS) : Option Int := s.bind fun n => if takesI o.kind < 0 ∨ n < takesI o.kind then none else some (n - takesI o.kind + 1)
def cntN (l : List OpS) : Option Int := l.foldl cntS (some 0)
theorem cnt_none (l : List OpS) : l.foldl cntS none = none := by
  induction l with
  | nil => rfl
  | cons o l ih => exact ih
theorem cnt_take (l : List OpS) (i : Nat) (h : cntN (l.take i) = none) : cntN l = none := by
  unfold cntN at *
  rw [← List.take_append_drop i l, List.foldl_append, h, cnt_none]
theorem cnt_step (l : List OpS) (i : Nat) (h : i < l.length) : cntN (l.take (i + 1)) = cntS (cntN (l.take i)) (l.getD i OpS.zero) := by
  unfold cntN
  rw [List.take_add_one, gdS h OpS.zero, List.foldl_append]
  rfl
theorem takesI_le (k : Int) : -1 ≤ takesI k ∧ takesI k ≤ 2 := by
  unfold takesI
  (repeat' split) <;> omega
set_option maxHeartbeats 2000000 in
theorem nmay_fn (l : List OpS) (hl : l.length ≤ 100000) : Fn Try.prog 66 [.d (opsD l)] [] (bool (decide (cntN l = some 1))) [] := by
  refine en Try.func66 (hfr := by (simp only [Try.ntmps66, go_sem, Nat.reduceSub, Nat.reduceAdd]; rfl)) ?_
  repeat' (first | exact absurd hb Bool.false_ne_true | exact absurd hb.symm Bool.false_ne_true | refine W.seq ?_ | refine W.block ?_ | (refine rgx [3] [] ?_; intro K hK) | (refine drx [3] [] ?_; intro K hK) | refine oq ?_ | refine sk ?_ | (refine nk hK ?_; clear hK K) | (refine nd hK ?_; clear hK K) | refine sp ?_ | refine ex ?_ | (refine gs (fun hb => ?_) (fun hb => ?_) <;> replace hb := nb hb <;> try exact noB hb) | (refine cd (fun hb => ?_) (fun hb => ?_) <;> replace hb := nb hb <;> try exact noB hb) | (with_reducible refine Exists.intro _ (And.intro rfl ?_)) | ((with_reducible refine And.intro ?_ ?_); (focus exact sdA)) | fail)
  refine W.lp (ι := Nat × Int) (fun p => (.d (opsD l) :: ay 1 (bool false :: i64 p.2 :: i64 p.1 :: ay 26 []))) (fun _ => []) (fun p => p.1 ≤ l.length ∧ cntN (l.take p.1) = some p.2 ∧ 0 ≤ p.2 ∧ p.2 ≤ 2 * (p.1 : Int)) (fun p => l.length - p.1) (0, 0) ⟨Nat.zero_le _, rfl, by decide, by decide⟩ (Ent.to ?_ rfl) ?_
  · skip
    exact wkA
  · rintro ⟨i, n⟩ ⟨hi, hc, hn0, hn1⟩
    simp only at hi hc hn0 hn1
    simp only
    by_cases hlt : i < l.length
    · have ct := takes_fn (l.getD i OpS.zero).kind
      have hk := takesI_le (l.getD i OpS.zero).kind
      have hs := cnt_step l i hlt
      rw [hc] at hs
      by_cases hbad : takesI (l.getD i OpS.zero).kind < 0 ∨ n < takesI (l.getD i OpS.zero).kind
      · have hnone : cntN l = none := cnt_take l (i + 1) (hs.trans (if_pos hbad))
        rw [decide_eq_false (p := cntN l = some 1) (fun h => by rw [hnone] at h; cases h)]
        repeat' (first | exact absurd hb Bool.false_ne_true | exact absurd hb.symm Bool.false_ne_true | refine W.seq ?_ | refine W.block ?_ | (refine rg [] ?_; intro K hK) | (refine dr [] ?_; intro K hK) | refine cl (ct) ?_ | refine oq ?_ | refine sk ?_ | (refine nk hK ?_; clear hK K) | (refine nd hK ?_; clear hK K) | refine sp ?_ | refine ex ?_ | (refine gs (fun hb => ?_) (fun hb => ?_) <;> replace hb := nb hb <;> try exact noB hb) | (refine cd (fun hb => ?_) (fun hb => ?_) <;> replace hb := nb hb <;> try exact noB hb) | (with_reducible refine Exists.intro _ (And.intro rfl ?_)) | ((with_reducible refine And.intro ?_ ?_); (focus exact sdA)) | fail)
        all_goals first | (exfalso; omega) | (refine rt ?_; refine fin ?_; exact wqA)
      · have hs : cntN (l.take (i + 1)) = some (n - takesI (l.getD i OpS.zero).kind + 1) := hs.trans (if_neg hbad)
        have hb1 : ¬ takesI (l.getD i OpS.zero).kind < 0 := by omega
        have hb2 : ¬ n < takesI (l.getD i OpS.zero).kind := by omega
        repeat' (first | exact absurd hb Bool.false_ne_true | exact absurd hb.symm Bool.false_ne_true | refine W.seq ?_ | refine W.block ?_ | (refine rg [] ?_; intro K hK) | (refine dr [] ?_; intro K hK) | refine cl (ct) ?_ | refine oq ?_ | refine sk ?_ | (refine nk hK ?_; clear hK K) | (refine nd hK ?_; clear hK K) | refine sp ?_ | refine ex ?_ | (refine gs (fun hb => ?_) (fun hb => ?_) <;> replace hb := nb hb <;> try exact noB hb) | (refine cd (fun hb => ?_) (fun hb => ?_) <;> replace hb := nb hb <;> try exact noB hb) | (with_reducible refine Exists.intro _ (And.intro rfl ?_)) | ((with_reducible refine And.intro ?_ ?_); (focus exact sdA)) | fail)
        refine nx (i + 1, n - takesI (l.getD i OpS.zero).kind + 1) ⟨by omega, hs, by simp only; omega, by simp only; omega⟩ (by simp only; omega) (Ent.to ?_ rfl)
        exact wkA
    · rw [List.take_of_length_le (by omega)] at hc
      rw [hc]
      repeat' (first | exact absurd hb Bool.false_ne_true | exact absurd hb.symm Bool.false_ne_true | refine W.seq ?_ | refine W.block ?_ | (refine rg [] ?_; intro K hK) | (refine dr [] ?_; intro K hK) | refine oq ?_ | refine sk ?_ | (refine nk hK ?_; clear hK K) | (refine nd hK ?_; clear hK K) | refine sp ?_ | refine ex ?_ | (refine gs (fun hb => ?_) (fun hb => ?_) <;> replace hb := nb hb <;> try exact noB hb) | (refine cd (fun hb => ?_) (fun hb => ?_) <;> replace hb := nb hb <;> try exact noB hb) | (with_reducible refine Exists.intro _ (And.intro rfl ?_)) | ((with_reducible refine And.intro ?_ ?_); (focus exact sdA)) | fail)
      refine rt ?_
      refine fin ?_
      refine Wk.bool ?_
      rw [Bool.eq_iff_iff]
      simp
def manyI (k : Int) : Int := if k = 4 ∨ k = 5 then 2 else if k = 1 ∨ k = 6 ∨ k = 7 then 1 else 0
def manyN (l : List OpS) : Int := l.foldl (fun n o => n + manyI o.kind) 1
theorem many_step (l : List OpS) (i : Nat) (h : i < l.length) : manyN (l.take (i + 1)) = manyN (l.take i) + manyI (l.getD i OpS.zero).kind := by
  unfold manyN
  rw [List.take_add_one, gdS h OpS.zero, List.foldl_append]
  rfl
theorem many_le (l : List OpS) : ∀ i, i ≤ l.length → 1 ≤ manyN (l.take i) ∧ manyN (l.take i) ≤ 1 + 2 * (i : Int)
  | 0, _ => by simp [manyN]
  | i + 1, h => by
    have ih := many_le l i (by omega)
    have hm : 0 ≤ manyI (l.getD i OpS.zero).kind ∧ manyI (l.getD i OpS.zero).kind ≤ 2 := by unfold manyI; (repeat' split) <;> omega
    rw [many_step l i (by omega)]
    omega
set_option maxHeartbeats 2000000 in
theorem nmany_fn (l : List OpS) (hl : l.length ≤ 100000) : Fn Try.prog 67 [.d (opsD l)] [] (i64 (manyN l)) [] := by
  refine en Try.func67 (hfr := by (simp only [Try.ntmps67, go_sem, Nat.reduceSub, Nat.reduceAdd]; rfl)) ?_
  repeat' (first | exact absurd hb Bool.false_ne_true | exact absurd hb.symm Bool.false_ne_true | refine W.seq ?_ | refine W.block ?_ | (refine rgx [3] [] ?_; intro K hK) | (refine drx [3] [] ?_; intro K hK) | refine oq ?_ | refine sk ?_ | (refine nk hK ?_; clear hK K) | (refine nd hK ?_; clear hK K) | refine sp ?_ | refine ex ?_ | (refine gs (fun hb => ?_) (fun hb => ?_) <;> replace hb := nb hb <;> try exact noB hb) | (refine cd (fun hb => ?_) (fun hb => ?_) <;> replace hb := nb hb <;> try exact noB hb) | (with_reducible refine Exists.intro _ (And.intro rfl ?_)) | ((with_reducible refine And.intro ?_ ?_); (focus exact sdA)) | fail)
  refine W.lp (ι := Nat) (fun i => (.d (opsD l) :: ay 2 (i64 (manyN (l.take i)) :: i64 i :: ay 23 []))) (fun _ => []) (fun i => i ≤ l.length) (fun i => l.length - i) 0 (Nat.zero_le _) (Ent.to ?_ rfl) ?_
  · skip
    exact wkA
  · intro i hi
    have hb := many_le l i hi
    by_cases hlt : i < l.length
    · have hs := many_step l i hlt
      repeat' (first | exact absurd hb Bool.false_ne_true | exact absurd hb.symm Bool.false_ne_true | refine W.seq ?_ | refine W.block ?_ | (refine rg [] ?_; intro K hK) | (refine dr [] ?_; intro K hK) | refine oq ?_ | refine sk ?_ | (refine nk hK ?_; clear hK K) | (refine nd hK ?_; clear hK K) | refine sp ?_ | refine ex ?_ | (refine gs (fun hb => ?_) (fun hb => ?_) <;> replace hb := nb hb <;> try exact noB hb) | (refine cd (fun hb => ?_) (fun hb => ?_) <;> replace hb := nb hb <;> try exact noB hb) | (with_reducible refine Exists.intro _ (And.intro rfl ?_)) | ((with_reducible refine And.intro ?_ ?_); (focus exact sdA)) | fail)
      all_goals (refine nx (i + 1) (by omega) (by omega) ?_; refine Ent.to ?_ rfl; rw [hs])
      all_goals (repeat' (first | exact WkL.nil | refine WkL.cons ?_ ?_ | exact Wk.any | exact Wk.rfl | refine Wk.int ?_))
      all_goals (unfold manyI; (repeat' split) <;> omega)
    · rw [List.take_of_length_le (by omega)]
      repeat' (first | exact absurd hb Bool.false_ne_true | exact absurd hb.symm Bool.false_ne_true | refine W.seq ?_ | refine W.block ?_ | (refine rg [] ?_; intro K hK) | (refine dr [] ?_; intro K hK) | refine oq ?_ | refine sk ?_ | (refine nk hK ?_; clear hK K) | (refine nd hK ?_; clear hK K) | refine sp ?_ | refine ex ?_ | (refine gs (fun hb => ?_) (fun hb => ?_) <;> replace hb := nb hb <;> try exact noB hb) | (refine cd (fun hb => ?_) (fun hb => ?_) <;> replace hb := nb hb <;> try exact noB hb) | (with_reducible refine Exists.intro _ (And.intro rfl ?_)) | ((with_reducible refine And.intro ?_ ?_); (focus exact sdA)) | fail)
      all_goals (refine rt ?_; refine fin ?_; exact wqA)
/-- A maker whose last piece is nil. -/
abbrev mkn (k : Nat) (rows : List (List InstS)) (many : Int) (bad : Bool) : List Ob := [.cells 141 [.hd 1 k (rows.length + 1), i64 many, bool bad], .grw 69 1 k (rows.length + 1) (rowsV rows ++ [.nil])]
set_option maxHeartbeats 1000000 in
theorem mput_nil (k : Nat) (rows : List (List InstS)) (many : Int) (bad : Bool) (hr : rows.length ≤ 100000) (hm : many ≤ 200) : Fn Try.prog 125 [.ptr 0 0, .nil] (mkr k rows many bad) (.tup []) (mkn (k + 1) rows many bad) := by
  refine en Try.func125 (hfr := by (simp only [Try.ntmps125, go_sem, Nat.reduceSub, Nat.reduceAdd]; rfl)) ?_
  repeat' (first | exact absurd hb Bool.false_ne_true | exact absurd hb.symm Bool.false_ne_true | refine W.seq ?_ | refine W.block ?_ | (refine rg [15, 16] ?_; intro K hK) | (refine dr [15, 16] ?_; intro K hK) | refine oq ?_ | refine sk ?_ | (refine nk hK ?_; clear hK K) | (refine nd hK ?_; clear hK K) | refine sp ?_ | refine ex ?_ | (refine gs (fun hb => ?_) (fun hb => ?_) <;> replace hb := nb hb <;> try exact noB hb) | (refine cd (fun hb => ?_) (fun hb => ?_) <;> replace hb := nb hb <;> try exact noB hb) | (with_reducible refine Exists.intro _ (And.intro rfl ?_)) | ((with_reducible refine And.intro ?_ ?_); (focus exact sdA)) | fail)
  refine fin ?_ (ha := ?_)
  · exact .rfl
  · simp only [Ob.lt, V.ltL, V.lt, ltL_app, ltL_dmap, List.all_cons, List.all_nil, List.length_cons, List.length_nil, Nat.reduceAdd, Nat.reduceLT, decide_true, Bool.and_self, Bool.and_true]
theorem mkn_lt (k : Nat) (rows : List (List InstS)) (many : Int) (bad : Bool) : (mkn k rows many bad).all (Ob.lt 2) = true := by
  simp only [Ob.lt, V.ltL, V.lt, ltL_app, ltL_dmap, List.all_cons, List.all_nil, Nat.reduceLT, decide_true, Bool.and_self, Bool.and_true]
set_option maxHeartbeats 1000000 in
theorem mnone_nil (k : Nat) (rows : List (List InstS)) (many : Int) (bad : Bool) (o : OpS) (hr : rows.length ≤ 100000) (hm : many ≤ 200) : Fn Try.prog 103 [.ptr 0 0, o.v] (mkr k rows many bad) (.tup []) (mkn (k + 1) rows many bad) := by
  have c := mput_nil k rows many bad hr hm
  refine en Try.func103 (hfr := by (simp only [Try.ntmps103, go_sem, Nat.reduceSub, Nat.reduceAdd]; rfl)) ?_
  repeat' (first | exact absurd hb Bool.false_ne_true | exact absurd hb.symm Bool.false_ne_true | refine W.seq ?_ | refine W.block ?_ | (refine rg [] ?_; intro K hK) | (refine dr [] ?_; intro K hK) | ((refine cle [0, 1] 0 (c) ?_ (ho' := mkn_lt ..))) | refine oq ?_ | refine sk ?_ | (refine nk hK ?_; clear hK K) | (refine nd hK ?_; clear hK K) | refine sp ?_ | refine ex ?_ | (refine gs (fun hb => ?_) (fun hb => ?_) <;> replace hb := nb hb <;> try exact noB hb) | (refine cd (fun hb => ?_) (fun hb => ?_) <;> replace hb := nb hb <;> try exact noB hb) | (with_reducible refine Exists.intro _ (And.intro rfl ?_)) | ((with_reducible refine And.intro ?_ ?_); (focus exact sdA)) | fail)
  refine fin ?_ (ha := mkn_lt ..)
  exact .rfl
/-- What is done for a kind of ops. -/
def opFn (k : Int) : V :=
  if (k == 1) = true then .fn (.func 102) [] [] else if (k == 2) = true then .fn (.func 103) [] [] else if (k == 3) = true then .fn (.func 104) [] [] else if (k == 4) = true then .fn (.func 105) [] [] else if (k == 5) = true then .fn (.func 106) [] [] else if (k == 6) = true then .fn (.func 107) [] [] else if (k == 7) = true then .fn (.func 108) [] [] else .d .nilf
theorem opFn_ite (k : Int) {d1 : Decidable ((k == 1) = true)} {d2 : Decidable ((k == 2) = true)} {d3 : Decidable ((k == 3) = true)} {d4 : Decidable ((k == 4) = true)} {d5 : Decidable ((k == 5) = true)} {d6 : Decidable ((k == 6) = true)} {d7 : Decidable ((k == 7) = true)} :
    @ite _ ((k == 1) = true) d1 (V.fn (.func 102) [] []) (@ite _ ((k == 2) = true) d2 (V.fn (.func 103) [] []) (@ite _ ((k == 3) = true) d3 (V.fn (.func 104) [] []) (@ite _ ((k == 4) = true) d4 (V.fn (.func 105) [] []) (@ite _ ((k == 5) = true) d5 (V.fn (.func 106) [] []) (@ite _ ((k == 6) = true) d6 (V.fn (.func 107) [] []) (@ite _ ((k == 7) = true) d7 (V.fn (.func 108) [] []) (V.d .nilf))))))) = opFn k := by
  unfold opFn
  congr
/-- What one op does to a maker. -/
def OpDo (o : OpS) (k : Nat) (st : List (List InstS)) (many : Int) : Prop :=
  match stepN o (st, many) with
  | none => opFn o.kind = .d .nilf ∨ ∃ f k' rows' many', opFn o.kind = .fn (.func f) [] [] ∧ Fn Try.prog f [.ptr 0 0, o.v] (mkr k st.reverse many false) (.tup []) (mkr k' rows' many' true)
  | some (x :: r, many') => ∃ f k', opFn o.kind = .fn (.func f) [] [] ∧ ((200 < many' ∧ Fn Try.prog f [.ptr 0 0, o.v] (mkr k st.reverse many false) (.tup []) (mkr k' (x :: r).reverse many' false)) ∨
      (many' ≤ 200 ∧ Fn Try.prog f [.ptr 0 0, o.v] (mkr k st.reverse many false) (.tup []) (mko k' r.reverse x many' false)) ∨
      (many' ≤ 200 ∧ x = [] ∧ Fn Try.prog f [.ptr 0 0, o.v] (mkr k st.reverse many false) (.tup []) (mkn k' r.reverse many' false)))
  | some ([], _) => False
theorem lay_no {m : Int} {l : List InstS} (h : m ≤ 200) : lay m l = l := if_neg (by omega)
theorem op_do (o : OpS) (k : Nat) (st : List (List InstS)) (many : Int) (hm : 0 ≤ many ∧ many ≤ 9000) (hs : o.spans.length ≤ 10000) (hr : st.length ≤ 9000) (ht : (total st : Int) ≤ many) : OpDo o k st many := by
  have hlen : ∀ x ∈ st, x.length ≤ 10000 := fun x hx => by
    have : x.length ≤ total st := by
      clear hr
      induction st with
      | nil => cases hx
      | cons y st ih =>
        rw [total_cons]
        rcases List.mem_cons.1 hx with rfl | h
        · omega
        · rw [total_cons] at ht
          have := ih (by omega) h
          omega
    omega
  obtain ⟨kind, nt, sp⟩ := o
  unfold OpDo
  by_cases h1 : kind = 1
  · subst h1
    have e : stepN ⟨1, nt, sp⟩ (st, many) = some (lay (many + 1) [⟨1, 0, 0, nt, sp⟩] :: st, many + 1) := rfl
    rw [e]
    by_cases hb : 200 < many + 1
    · exact ⟨_, _, rfl, .inl ⟨hb, by rw [List.reverse_cons]; exact mset_fn k st.reverse many false ⟨1, nt, sp⟩ (by simp; omega) (by omega) hs⟩⟩
    · exact ⟨_, _, rfl, .inr (.inl ⟨by omega, by rw [lay_no (by omega)]; exact mset_own k st.reverse many false ⟨1, nt, sp⟩ (by simp; omega) (by omega) hs⟩)⟩
  by_cases h2 : kind = 2
  · subst h2
    have e : stepN ⟨2, nt, sp⟩ (st, many) = some (lay many [] :: st, many) := rfl
    rw [e]
    by_cases hb : 200 < many
    · exact ⟨_, _, rfl, .inl ⟨hb, by rw [List.reverse_cons]; exact mnone_fn k st.reverse many false ⟨2, nt, sp⟩ (by simp; omega)⟩⟩
    · exact ⟨_, _, rfl, .inr (.inr ⟨by omega, lay_no (by omega), mnone_nil k st.reverse many false ⟨2, nt, sp⟩ (by simp; omega) (by omega)⟩)⟩
  by_cases h3 : kind = 3
  · subst h3
    match st, hr, ht, hlen with
    | [], _, _, _ => exact .inr ⟨_, _, _, _, rfl, mcat_0 k many false ⟨3, nt, sp⟩ (by omega)⟩
    | [b], _, _, hlen => exact .inr ⟨_, _, _, _, rfl, mcat_1 k b (hlen b (by simp)) many false ⟨3, nt, sp⟩ (by omega)⟩
    | b :: a :: r, hr, ht, hlen =>
      have e : stepN ⟨3, nt, sp⟩ (b :: a :: r, many) = some (lay many (a ++ b) :: r, many) := rfl
      rw [e]
      simp only [List.length_cons] at hr
      have hrev : (b :: a :: r).reverse = r.reverse ++ [a] ++ [b] := by simp
      rw [hrev]
      by_cases hb : 200 < many
      · exact ⟨_, _, rfl, .inl ⟨hb, by rw [List.reverse_cons]; exact mcat_fn k r.reverse a b many false ⟨3, nt, sp⟩ (by simp; omega) (hlen a (by simp)) (hlen b (by simp))⟩⟩
      · exact ⟨_, _, rfl, .inr (.inl ⟨by omega, by rw [lay_no (by omega)]; exact mcat_own k r.reverse a b many false ⟨3, nt, sp⟩ (by simp; omega) (hlen a (by simp)) (hlen b (by simp)) (by omega)⟩)⟩
  by_cases h4 : kind = 4
  · subst h4
    match st, hr, ht, hlen with
    | [], _, _, _ => exact .inr ⟨_, _, _, _, rfl, malt_0 k many false ⟨4, nt, sp⟩ (by omega)⟩
    | [b], _, _, hlen => exact .inr ⟨_, _, _, _, rfl, malt_1 k b (hlen b (by simp)) many false ⟨4, nt, sp⟩ (by omega)⟩
    | b :: a :: r, hr, ht, hlen =>
      have e : stepN ⟨4, nt, sp⟩ (b :: a :: r, many) = some (lay (many + 2) (altL a b) :: r, many + 2) := rfl
      rw [e]
      simp only [List.length_cons] at hr
      have hrev : (b :: a :: r).reverse = r.reverse ++ [a] ++ [b] := by simp
      rw [hrev]
      by_cases hb : 200 < many + 2
      · exact ⟨_, _, rfl, .inl ⟨hb, by rw [List.reverse_cons]; exact malt_fn k r.reverse a b many false ⟨4, nt, sp⟩ (by simp; omega) (hlen a (by simp)) (hlen b (by simp)) (by omega)⟩⟩
      · exact ⟨_, _, rfl, .inr (.inl ⟨by omega, by rw [lay_no (by omega)]; exact malt_own k r.reverse a b many false ⟨4, nt, sp⟩ (by simp; omega) (hlen a (by simp)) (hlen b (by simp)) (by omega)⟩)⟩
  by_cases h5 : kind = 5
  · subst h5
    match st, hr, ht, hlen with
    | [], _, _, _ => exact .inr ⟨_, _, _, _, rfl, mstar_0 k many false ⟨5, nt, sp⟩ (by omega)⟩
    | a :: r, hr, ht, hlen =>
      have e : stepN ⟨5, nt, sp⟩ (a :: r, many) = some (lay (many + 2) (starL a) :: r, many + 2) := rfl
      rw [e]
      simp only [List.length_cons] at hr
      have hrev : (a :: r).reverse = r.reverse ++ [a] := by simp
      rw [hrev]
      by_cases hb : 200 < many + 2
      · exact ⟨_, _, rfl, .inl ⟨hb, by rw [List.reverse_cons]; exact mstar_fn k r.reverse a many false ⟨5, nt, sp⟩ (by simp; omega) (hlen a (by simp)) (by omega)⟩⟩
      · exact ⟨_, _, rfl, .inr (.inl ⟨by omega, by rw [lay_no (by omega)]; exact mstar_own k r.reverse a many false ⟨5, nt, sp⟩ (by simp; omega) (hlen a (by simp)) (by omega)⟩)⟩
  by_cases h6 : kind = 6
  · subst h6
    match st, hr, ht, hlen with
    | [], _, _, _ => exact .inr ⟨_, _, _, _, rfl, mplus_0 k many false ⟨6, nt, sp⟩ (by omega)⟩
    | a :: r, hr, ht, hlen =>
      have e : stepN ⟨6, nt, sp⟩ (a :: r, many) = some (lay (many + 1) (plusL a) :: r, many + 1) := rfl
      rw [e]
      simp only [List.length_cons] at hr
      have hrev : (a :: r).reverse = r.reverse ++ [a] := by simp
      rw [hrev]
      by_cases hb : 200 < many + 1
      · exact ⟨_, _, rfl, .inl ⟨hb, by rw [List.reverse_cons]; exact mplus_fn k r.reverse a many false ⟨6, nt, sp⟩ (by simp; omega) (hlen a (by simp)) (by omega)⟩⟩
      · exact ⟨_, _, rfl, .inr (.inl ⟨by omega, by rw [lay_no (by omega)]; exact mplus_own k r.reverse a many false ⟨6, nt, sp⟩ (by simp; omega) (hlen a (by simp)) (by omega)⟩)⟩
  by_cases h7 : kind = 7
  · subst h7
    match st, hr, ht, hlen with
    | [], _, _, _ => exact .inr ⟨_, _, _, _, rfl, mopt_0 k many false ⟨7, nt, sp⟩ (by omega)⟩
    | a :: r, hr, ht, hlen =>
      have e : stepN ⟨7, nt, sp⟩ (a :: r, many) = some (lay (many + 1) (optL a) :: r, many + 1) := rfl
      rw [e]
      simp only [List.length_cons] at hr
      have hrev : (a :: r).reverse = r.reverse ++ [a] := by simp
      rw [hrev]
      by_cases hb : 200 < many + 1
      · exact ⟨_, _, rfl, .inl ⟨hb, by rw [List.reverse_cons]; exact mopt_fn k r.reverse a many false ⟨7, nt, sp⟩ (by simp; omega) (hlen a (by simp)) (by omega)⟩⟩
      · exact ⟨_, _, rfl, .inr (.inl ⟨by omega, by rw [lay_no (by omega)]; exact mopt_own k r.reverse a many false ⟨7, nt, sp⟩ (by simp; omega) (hlen a (by simp)) (by omega)⟩)⟩
  have e : stepN ⟨kind, nt, sp⟩ (st, many) = none := by
    unfold stepN
    simp only [if_neg h1, if_neg h2, if_neg h3, if_neg h4, if_neg h5, if_neg h6, if_neg h7]
  rw [e]
  left
  unfold opFn
  simp only [beq_iff_eq, if_neg h1, if_neg h2, if_neg h3, if_neg h4, if_neg h5, if_neg h6, if_neg h7]
end Go.Proofs.Ytgebfcdcpmmgnaa.Vs
