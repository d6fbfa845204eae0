/- words: what reads from where one is. -/
import Derived.Test.YtgebfcdcpmmgnaaVlA
set_option linter.unusedVariables false
set_option linter.unusedSimpArgs false
namespace Go.Proofs.Ytgebfcdcpmmgnaa.Vs
open Go.RowKit
set_option maxRecDepth 100000
/-- What reads on. -/
inductive LSt where
  | nil | btw | wrd | num | txt
deriving DecidableEq
def LSt.v : LSt → V
  | .nil => .d .nilf
  | .btw => .fn (.func 51) [] []
  | .wrd => .fn (.func 85) [] []
  | .num => .fn (.func 87) [] []
  | .txt => .fn (.func 88) [] []
structure LxS where
  pos : Nat
  out : List TokS
  bad : Bool
  frm : Nat
def btwR (s : List UInt8) (x : LxS) : LSt × LxS :=
  if x.pos + spn blankB s x.pos = s.length then (.nil, { x with pos := x.pos + spn blankB s x.pos })
  else if (s.getD (x.pos + spn blankB s x.pos) 0).toNat = 35 then (.btw, { x with pos := x.pos + spn blankB s x.pos + spn lineB s (x.pos + spn blankB s x.pos), frm := x.pos + spn blankB s x.pos })
  else if letterB (s.getD (x.pos + spn blankB s x.pos) 0) then (.wrd, { x with pos := x.pos + spn blankB s x.pos, frm := x.pos + spn blankB s x.pos })
  else if digitB (s.getD (x.pos + spn blankB s x.pos) 0) then (.num, { x with pos := x.pos + spn blankB s x.pos, frm := x.pos + spn blankB s x.pos })
  else if (s.getD (x.pos + spn blankB s x.pos) 0).toNat = 34 then (.txt, { x with pos := x.pos + spn blankB s x.pos, frm := x.pos + spn blankB s x.pos })
  else (.nil, { x with pos := x.pos + spn blankB s x.pos, bad := true, frm := x.pos + spn blankB s x.pos })
abbrev lxo (s : List UInt8) (x : LxS) : List Ob := lxs s x.pos x.out x.bad x.frm
set_option maxHeartbeats 4000000 in
theorem between_fn (s : List UInt8) (x : LxS) (hq : x.pos ≤ s.length) (hl : s.length ≤ 100000) : Fn Try.prog 51 [.ptr 0 0] (lxo s x) (btwR s x).1.v (lxo s (btwR s x).2) := by
  obtain ⟨pos, out, bad, frm⟩ := x
  simp only at hq
  unfold btwR lxo
  simp only
  have c1 := pass_fn blank_p s pos out bad frm hq hl
  have h1 := spn_le blankB s pos hq
  generalize pos + spn blankB s pos = q at *
  have c2 := pass_fn line_p s q out bad q h1 hl
  have c3 := letter_p (s.getD q 0)
  have c4 := digit_p (s.getD q 0)
  have c5 := fail_fn s q out bad q q
  by_cases e1 : q = s.length
  · rw [if_pos e1]
    refine en Try.func51 (hfr := by (simp only [Try.ntmps51, go_sem, Nat.reduceSub, Nat.reduceAdd]; rfl)) ?_
    repeat' (first | exact absurd hb Bool.false_ne_true | exact absurd hb.symm Bool.false_ne_true | refine W.seq ?_ | refine W.block ?_ | (refine rg [] ?_; intro K hK) | (refine dr [] ?_; intro K hK) | refine cle [0, 1] 0 (c1) ?_ | refine oq ?_ | refine sk ?_ | (refine nk hK ?_; clear hK K) | (refine nd hK ?_; clear hK K) | refine sp ?_ | refine ex ?_ | (refine gs (fun hb => ?_) (fun hb => ?_) <;> replace hb := nb hb <;> try exact noB hb) | (refine cd (fun hb => ?_) (fun hb => ?_) <;> replace hb := nb hb <;> try exact noB hb) | (with_reducible refine Exists.intro _ (And.intro rfl ?_)) | ((with_reducible refine And.intro ?_ ?_); (focus exact sdA)) | fail)
    all_goals (refine rt ?_; refine fin ?_; exact wqA)
  rw [if_neg e1]
  by_cases e2 : (s.getD q 0).toNat = 35
  · rw [if_pos e2]
    refine en Try.func51 (hfr := by (simp only [Try.ntmps51, go_sem, Nat.reduceSub, Nat.reduceAdd]; rfl)) ?_
    repeat' (first | exact absurd hb Bool.false_ne_true | exact absurd hb.symm Bool.false_ne_true | refine W.seq ?_ | refine W.block ?_ | (refine rg [] ?_; intro K hK) | (refine dr [] ?_; intro K hK) | refine cle [0, 1] 0 (c1) ?_ | refine cle [0, 1] 0 (c2) ?_ | refine oq ?_ | refine sk ?_ | (refine nk hK ?_; clear hK K) | (refine nd hK ?_; clear hK K) | refine sp ?_ | refine ex ?_ | (refine gs (fun hb => ?_) (fun hb => ?_) <;> replace hb := nb hb <;> try exact noB hb) | (refine cd (fun hb => ?_) (fun hb => ?_) <;> replace hb := nb hb <;> try exact noB hb) | (with_reducible refine Exists.intro _ (And.intro rfl ?_)) | ((with_reducible refine And.intro ?_ ?_); (focus exact sdA)) | fail)
    all_goals (refine rt ?_; refine fin ?_; exact wqA)
  rw [if_neg e2]
  cases e3 : letterB (s.getD q 0) with
  | true =>
    rw [e3] at c3
    rw [if_pos rfl]
    refine en Try.func51 (hfr := by (simp only [Try.ntmps51, go_sem, Nat.reduceSub, Nat.reduceAdd]; rfl)) ?_
    repeat' (first | exact absurd hb Bool.false_ne_true | exact absurd hb.symm Bool.false_ne_true | refine W.seq ?_ | refine W.block ?_ | (refine rg [] ?_; intro K hK) | (refine dr [] ?_; intro K hK) | refine cle [0, 1] 0 (c1) ?_ | refine cl (c3) ?_ | refine oq ?_ | refine sk ?_ | (refine nk hK ?_; clear hK K) | (refine nd hK ?_; clear hK K) | refine sp ?_ | refine ex ?_ | (refine gs (fun hb => ?_) (fun hb => ?_) <;> replace hb := nb hb <;> try exact noB hb) | (refine cd (fun hb => ?_) (fun hb => ?_) <;> replace hb := nb hb <;> try exact noB hb) | (with_reducible refine Exists.intro _ (And.intro rfl ?_)) | ((with_reducible refine And.intro ?_ ?_); (focus exact sdA)) | fail)
    all_goals (refine rt ?_; refine fin ?_; exact wqA)
  | false =>
    rw [e3] at c3
    rw [if_neg (by decide)]
    cases e4 : digitB (s.getD q 0) with
    | true =>
      rw [e4] at c4
      rw [if_pos rfl]
      refine en Try.func51 (hfr := by (simp only [Try.ntmps51, go_sem, Nat.reduceSub, Nat.reduceAdd]; rfl)) ?_
      repeat' (first | exact absurd hb Bool.false_ne_true | exact absurd hb.symm Bool.false_ne_true | refine W.seq ?_ | refine W.block ?_ | (refine rg [] ?_; intro K hK) | (refine dr [] ?_; intro K hK) | refine cle [0, 1] 0 (c1) ?_ | refine cl (c3) ?_ | refine cl (c4) ?_ | refine oq ?_ | refine sk ?_ | (refine nk hK ?_; clear hK K) | (refine nd hK ?_; clear hK K) | refine sp ?_ | refine ex ?_ | (refine gs (fun hb => ?_) (fun hb => ?_) <;> replace hb := nb hb <;> try exact noB hb) | (refine cd (fun hb => ?_) (fun hb => ?_) <;> replace hb := nb hb <;> try exact noB hb) | (with_reducible refine Exists.intro _ (And.intro rfl ?_)) | ((with_reducible refine And.intro ?_ ?_); (focus exact sdA)) | fail)
      all_goals (refine rt ?_; refine fin ?_; exact wqA)
    | false =>
      rw [e4] at c4
      rw [if_neg (by decide)]
      by_cases e5 : (s.getD q 0).toNat = 34
      · rw [if_pos e5]
        refine en Try.func51 (hfr := by (simp only [Try.ntmps51, go_sem, Nat.reduceSub, Nat.reduceAdd]; rfl)) ?_
        repeat' (first | exact absurd hb Bool.false_ne_true | exact absurd hb.symm Bool.false_ne_true | refine W.seq ?_ | refine W.block ?_ | (refine rg [] ?_; intro K hK) | (refine dr [] ?_; intro K hK) | refine cle [0, 1] 0 (c1) ?_ | refine cl (c3) ?_ | refine cl (c4) ?_ | refine oq ?_ | refine sk ?_ | (refine nk hK ?_; clear hK K) | (refine nd hK ?_; clear hK K) | refine sp ?_ | refine ex ?_ | (refine gs (fun hb => ?_) (fun hb => ?_) <;> replace hb := nb hb <;> try exact noB hb) | (refine cd (fun hb => ?_) (fun hb => ?_) <;> replace hb := nb hb <;> try exact noB hb) | (with_reducible refine Exists.intro _ (And.intro rfl ?_)) | ((with_reducible refine And.intro ?_ ?_); (focus exact sdA)) | fail)
        all_goals (refine rt ?_; refine fin ?_; exact wqA)
      · rw [if_neg e5]
        refine en Try.func51 (hfr := by (simp only [Try.ntmps51, go_sem, Nat.reduceSub, Nat.reduceAdd]; rfl)) ?_
        repeat' (first | exact absurd hb Bool.false_ne_true | exact absurd hb.symm Bool.false_ne_true | refine W.seq ?_ | refine W.block ?_ | (refine rg [] ?_; intro K hK) | (refine dr [] ?_; intro K hK) | refine cle [0, 1] 0 (c1) ?_ | refine cl (c3) ?_ | refine cl (c4) ?_ | refine cle [0, 1] 0 (c5) ?_ | refine oq ?_ | refine sk ?_ | (refine nk hK ?_; clear hK K) | (refine nd hK ?_; clear hK K) | refine sp ?_ | refine ex ?_ | (refine gs (fun hb => ?_) (fun hb => ?_) <;> replace hb := nb hb <;> try exact noB hb) | (refine cd (fun hb => ?_) (fun hb => ?_) <;> replace hb := nb hb <;> try exact noB hb) | (with_reducible refine Exists.intro _ (And.intro rfl ?_)) | ((with_reducible refine And.intro ?_ ?_); (focus exact sdA)) | fail)
        all_goals (refine rt ?_; refine fin ?_; exact wqA)
def wrdR (s : List UInt8) (x : LxS) : LSt × LxS :=
  if 20 < spn wordB s x.pos then (.nil, { x with pos := x.frm, bad := true })
  else (.btw, { x with pos := x.pos + spn wordB s x.pos, out := x.out ++ [⟨1, x.frm, 0, (s.drop x.pos).takeWhile wordB⟩] })
set_option maxHeartbeats 4000000 in
theorem word_fn (s : List UInt8) (x : LxS) (hq : x.pos ≤ s.length) (hl : s.length ≤ 100000) (ho : x.out.length ≤ 100000) : Fn Try.prog 85 [.ptr 0 0] (lxo s x) (wrdR s x).1.v (lxo s (wrdR s x).2) := by
  obtain ⟨pos, out, bad, frm⟩ := x
  simp only at hq ho
  unfold wrdR lxo
  simp only
  have c1 := pass_fn word_p s pos out bad frm hq hl
  have h1 := spn_le wordB s pos hq
  have h2 : ((s.drop pos).takeWhile wordB).length = spn wordB s pos := rfl
  have c5 := fail_fn s (pos + spn wordB s pos) out bad frm frm
  have c6 := add_fn s (pos + spn wordB s pos) out bad frm 1 0 ((s.drop pos).takeWhile wordB) ho (by omega)
  generalize (s.drop pos).takeWhile wordB = w at *
  by_cases e1 : 20 < spn wordB s pos
  · rw [if_pos e1]
    refine en Try.func85 (hfr := by (simp only [Try.ntmps85, go_sem, Nat.reduceSub, Nat.reduceAdd]; rfl)) ?_
    repeat' (first | exact absurd hb Bool.false_ne_true | exact absurd hb.symm Bool.false_ne_true | refine W.seq ?_ | refine W.block ?_ | (refine rg [] ?_; intro K hK) | (refine dr [] ?_; intro K hK) | refine cle [0, 1] 0 (c1) ?_ | refine cle [0, 1] 0 (c5) ?_ | refine oq ?_ | refine sk ?_ | (refine nk hK ?_; clear hK K) | (refine nd hK ?_; clear hK K) | refine sp ?_ | refine ex ?_ | (refine gs (fun hb => ?_) (fun hb => ?_) <;> replace hb := nb hb <;> try exact noB hb) | (refine cd (fun hb => ?_) (fun hb => ?_) <;> replace hb := nb hb <;> try exact noB hb) | (with_reducible refine Exists.intro _ (And.intro rfl ?_)) | ((with_reducible refine And.intro ?_ ?_); (focus exact sdA)) | fail)
    all_goals (refine rt ?_; refine fin ?_; exact wqA)
  · rw [if_neg e1]
    refine en Try.func85 (hfr := by (simp only [Try.ntmps85, go_sem, Nat.reduceSub, Nat.reduceAdd]; rfl)) ?_
    repeat' (first | exact absurd hb Bool.false_ne_true | exact absurd hb.symm Bool.false_ne_true | refine W.seq ?_ | refine W.block ?_ | (refine rg [] ?_; intro K hK) | (refine dr [] ?_; intro K hK) | refine cle [0, 1] 0 (c1) ?_ | refine cle [0, 1] 0 (c6) ?_ | refine oq ?_ | refine sk ?_ | (refine nk hK ?_; clear hK K) | (refine nd hK ?_; clear hK K) | refine sp ?_ | refine ex ?_ | (refine gs (fun hb => ?_) (fun hb => ?_) <;> replace hb := nb hb <;> try exact noB hb) | (refine cd (fun hb => ?_) (fun hb => ?_) <;> replace hb := nb hb <;> try exact noB hb) | (with_reducible refine Exists.intro _ (And.intro rfl ?_)) | ((with_reducible refine And.intro ?_ ?_); (focus exact sdA)) | fail)
    refine rt ?_
    refine fin ?_ (ht := by simp only [lxs, List.length_append, List.length_cons, List.length_nil, Nat.zero_add, Nat.add_zero]; rfl)
    exact wqA
def decN (d : List UInt8) : Nat := d.foldl (fun n b => 10 * n + (b.toNat - 48)) 0
def numBad (s : List UInt8) (pos : Nat) : Prop := 4 < spn digitB s pos ∨ 1 < spn digitB s pos ∧ (s.getD pos 0).toNat = 48
instance (s : List UInt8) (pos : Nat) : Decidable (numBad s pos) := by unfold numBad; infer_instance
def numR (s : List UInt8) (x : LxS) : LSt × LxS :=
  if numBad s x.pos then (.nil, { x with pos := x.frm, bad := true })
  else (.btw, { x with pos := x.pos + spn digitB s x.pos, out := x.out ++ [⟨2, x.frm, decN ((s.drop x.pos).takeWhile digitB), []⟩] })
theorem tw_all (p : UInt8 → Bool) : ∀ (l : List UInt8), ∀ c ∈ l.takeWhile p, p c = true
  | [], c, h => by simp at h
  | x :: l, c, h => by
    cases hx : p x with
    | false => rw [List.takeWhile_cons_of_neg (by rw [hx]; decide)] at h; cases h
    | true =>
      rw [List.takeWhile_cons_of_pos hx] at h
      rcases List.mem_cons.1 h with rfl | h
      · exact hx
      · exact tw_all p l c h
theorem decN_step (d : List UInt8) (i : Nat) (h : i < d.length) : decN (d.take (i + 1)) = 10 * decN (d.take i) + ((d.getD i 0).toNat - 48) := by
  unfold decN
  rw [List.take_add_one, gdS h 0, List.foldl_append]
  rfl
theorem decN_lt (d : List UInt8) (hd : ∀ c ∈ d, digitB c = true) : ∀ i, i ≤ d.length → decN (d.take i) < 10 ^ i
  | 0, _ => by simp [decN]
  | i + 1, h => by
    have ih := decN_lt d hd i (by omega)
    rw [decN_step d i (by omega), Nat.pow_succ]
    have := hd _ (List.mem_of_getElem? (gdS (show i < d.length by omega) 0))
    unfold digitB at this
    have := of_decide_eq_true this
    omega
theorem tw_head (p : UInt8 → Bool) (s : List UInt8) (pos : Nat) (h : 0 < spn p s pos) : ((s.drop pos).takeWhile p).getD 0 0 = s.getD pos 0 := by
  unfold spn at h
  have e : s.getD pos 0 = (s.drop pos).getD 0 0 := by rw [List.getD_eq_getElem?_getD, List.getD_eq_getElem?_getD, List.getElem?_drop]; rfl
  rw [e]
  generalize s.drop pos = l at *
  cases l with
  | nil => simp at h
  | cons c l =>
    cases hc : p c with
    | false => rw [List.takeWhile_cons_of_neg (by rw [hc]; decide)] at h; simp at h
    | true => rw [List.takeWhile_cons_of_pos hc]; rfl
set_option maxHeartbeats 4000000 in
theorem number_fn (s : List UInt8) (x : LxS) (hq : x.pos ≤ s.length) (hl : s.length ≤ 100000) (ho : x.out.length ≤ 100000) : Fn Try.prog 87 [.ptr 0 0] (lxo s x) (numR s x).1.v (lxo s (numR s x).2) := by
  obtain ⟨pos, out, bad, frm⟩ := x
  simp only at hq ho
  unfold numR lxo
  simp only
  have c1 := pass_fn digit_p s pos out bad frm hq hl
  have h1 := spn_le digitB s pos hq
  have h2 : ((s.drop pos).takeWhile digitB).length = spn digitB s pos := rfl
  have h3 := tw_all digitB (s.drop pos)
  have h4 := tw_head digitB s pos
  have c5 := fail_fn s (pos + spn digitB s pos) out bad frm frm
  have c6 := add_fn s (pos + spn digitB s pos) out bad frm 2 (decN ((s.drop pos).takeWhile digitB)) [] ho (by simp)
  generalize (s.drop pos).takeWhile digitB = d at *
  by_cases e1 : numBad s pos
  · rw [if_pos e1]
    unfold numBad at e1
    rcases e1 with e1 | ⟨e1, e2⟩
    · skip
      refine en Try.func87 (hfr := by (simp only [Try.ntmps87, go_sem, Nat.reduceSub, Nat.reduceAdd]; rfl)) ?_
      repeat' (first | exact absurd hb Bool.false_ne_true | exact absurd hb.symm Bool.false_ne_true | refine W.seq ?_ | refine W.block ?_ | (refine rg [] ?_; intro K hK) | (refine dr [] ?_; intro K hK) | refine cle [0, 1] 0 (c1) ?_ | refine cle [0, 1] 0 (c5) ?_ | refine oq ?_ | refine sk ?_ | (refine nk hK ?_; clear hK K) | (refine nd hK ?_; clear hK K) | refine sp ?_ | refine ex ?_ | (refine gs (fun hb => ?_) (fun hb => ?_) <;> replace hb := nb hb <;> try exact noB hb) | (refine cd (fun hb => ?_) (fun hb => ?_) <;> replace hb := nb hb <;> try exact noB hb) | (with_reducible refine Exists.intro _ (And.intro rfl ?_)) | ((with_reducible refine And.intro ?_ ?_); (focus exact sdA)) | fail)
      all_goals (refine rt ?_; refine fin ?_; exact wqA)
    · rw [← h4 (by omega)] at e2
      refine en Try.func87 (hfr := by (simp only [Try.ntmps87, go_sem, Nat.reduceSub, Nat.reduceAdd]; rfl)) ?_
      repeat' (first | exact absurd hb Bool.false_ne_true | exact absurd hb.symm Bool.false_ne_true | refine W.seq ?_ | refine W.block ?_ | (refine rg [] ?_; intro K hK) | (refine dr [] ?_; intro K hK) | refine cle [0, 1] 0 (c1) ?_ | refine cle [0, 1] 0 (c5) ?_ | refine oq ?_ | refine sk ?_ | (refine nk hK ?_; clear hK K) | (refine nd hK ?_; clear hK K) | refine sp ?_ | refine ex ?_ | (refine gs (fun hb => ?_) (fun hb => ?_) <;> replace hb := nb hb <;> try exact noB hb) | (refine cd (fun hb => ?_) (fun hb => ?_) <;> replace hb := nb hb <;> try exact noB hb) | (with_reducible refine Exists.intro _ (And.intro rfl ?_)) | ((with_reducible refine And.intro ?_ ?_); (focus exact sdA)) | fail)
      all_goals (refine rt ?_; refine fin ?_; exact wqA)
  · rw [if_neg e1]
    unfold numBad at e1
    have e2 : spn digitB s pos ≤ 4 ∧ (1 < spn digitB s pos → ¬ (d.getD 0 0).toNat = 48) := ⟨by omega, fun h => by rw [h4 (by omega)]; exact fun h' => e1 (.inr ⟨h, h'⟩)⟩
    obtain ⟨e2, e3⟩ := e2
    clear e1
    have e4 : d.length ≤ 1 ∨ ¬ (d.getD 0 0).toNat = 48 := by
      by_cases h : 1 < spn digitB s pos
      · exact .inr (e3 h)
      · exact .inl (by omega)
    clear e3
    refine en Try.func87 (hfr := by (simp only [Try.ntmps87, go_sem, Nat.reduceSub, Nat.reduceAdd]; rfl)) ?_
    repeat' (first | exact absurd hb Bool.false_ne_true | exact absurd hb.symm Bool.false_ne_true | refine W.seq ?_ | refine W.block ?_ | (refine rgx [2] [] ?_; intro K hK) | (refine drx [2] [] ?_; intro K hK) | refine cle [0, 1] 0 (c1) ?_ | refine oq ?_ | refine sk ?_ | (refine nk hK ?_; clear hK K) | (refine nd hK ?_; clear hK K) | refine sp ?_ | refine ex ?_ | (refine gs (fun hb => ?_) (fun hb => ?_) <;> replace hb := nb hb <;> try exact noB hb) | (refine cd (fun hb => ?_) (fun hb => ?_) <;> replace hb := nb hb <;> try exact noB hb) | (with_reducible refine Exists.intro _ (And.intro rfl ?_)) | ((with_reducible refine And.intro ?_ ?_); (focus exact sdA)) | fail)
    refine W.jn ((.ptr 0 0 :: ay 2 (bytes d :: ay 18 (bool false :: ay 22 [])))) (lxs s (pos + spn digitB s pos) out bad frm) ?_ ?_
    · skip
      repeat' (first | exact absurd hb Bool.false_ne_true | exact absurd hb.symm Bool.false_ne_true | refine W.seq ?_ | refine W.block ?_ | (refine rg [] ?_; intro K hK) | (refine dr [] ?_; intro K hK) | refine oq ?_ | refine sk ?_ | (refine nk hK ?_; clear hK K) | (refine nd hK ?_; clear hK K) | refine sp ?_ | refine ex ?_ | (refine gs (fun hb => ?_) (fun hb => ?_) <;> replace hb := nb hb <;> try exact noB hb) | (refine cd (fun hb => ?_) (fun hb => ?_) <;> replace hb := nb hb <;> try exact noB hb) | (with_reducible refine Exists.intro _ (And.intro rfl ?_)) | ((with_reducible refine And.intro ?_ ?_); (focus exact sdA)) | fail)
      all_goals refine Ent.to ?_ rfl
      all_goals (repeat' (first | exact WkL.nil | refine WkL.cons ?_ ?_ | exact Wk.any | exact Wk.rfl | refine Wk.bool ?_))
      all_goals (rw [beq_eq_false_iff_ne]; omega)
    repeat' (first | exact absurd hb Bool.false_ne_true | exact absurd hb.symm Bool.false_ne_true | refine W.seq ?_ | refine W.block ?_ | (refine rgx [6] [] ?_; intro K hK) | (refine drx [6] [] ?_; intro K hK) | refine oq ?_ | refine sk ?_ | (refine nk hK ?_; clear hK K) | (refine nd hK ?_; clear hK K) | refine sp ?_ | refine ex ?_ | (refine gs (fun hb => ?_) (fun hb => ?_) <;> replace hb := nb hb <;> try exact noB hb) | (refine cd (fun hb => ?_) (fun hb => ?_) <;> replace hb := nb hb <;> try exact noB hb) | (with_reducible refine Exists.intro _ (And.intro rfl ?_)) | ((with_reducible refine And.intro ?_ ?_); (focus exact sdA)) | fail)
    refine W.lp (ι := Nat) (fun i => (.ptr 0 0 :: ay 2 (bytes d :: i64 (decN (d.take i) : Nat) :: ay 24 (bytes d :: i64 d.length :: i64 i :: ay 13 [])))) (fun _ => lxs s (pos + spn digitB s pos) out bad frm) (fun i => i ≤ d.length) (fun i => d.length - i) 0 (Nat.zero_le _) (Ent.to ?_ rfl) ?_
    · skip
      exact wkA
    intro i hi
    by_cases hlt : i < d.length
    · have g1 := decN_lt d h3 i hi
      have g2 := decN_step d i hlt
      have g3 := of_decide_eq_true (h3 _ (List.mem_of_getElem? (gdS hlt 0)))
      have g4 : 10 ^ i ≤ 1000 := Nat.le_trans (Nat.pow_le_pow_right (by decide) (show i ≤ 3 by omega)) (by decide)
      repeat' (first | exact absurd hb Bool.false_ne_true | exact absurd hb.symm Bool.false_ne_true | refine W.seq ?_ | refine W.block ?_ | (refine rg [] ?_; intro K hK) | (refine dr [] ?_; intro K hK) | refine oq ?_ | refine sk ?_ | (refine nk hK ?_; clear hK K) | (refine nd hK ?_; clear hK K) | refine sp ?_ | refine ex ?_ | (refine gs (fun hb => ?_) (fun hb => ?_) <;> replace hb := nb hb <;> try exact noB hb) | (refine cd (fun hb => ?_) (fun hb => ?_) <;> replace hb := nb hb <;> try exact noB hb) | (with_reducible refine Exists.intro _ (And.intro rfl ?_)) | ((with_reducible refine And.intro ?_ ?_); (focus exact sdA)) | fail)
      refine nx (i + 1) (by omega) (by omega) (Ent.to ?_ rfl)
      rw [g2]
      repeat' (first | exact WkL.nil | refine WkL.cons ?_ ?_ | exact Wk.any | exact Wk.rfl | exact Wk.own rfl rfl | exact Wk.nil (by decide) rfl | refine Wk.int ?_ | refine Wk.bool ?_ | refine Wk.row ?_ ?_ ?_ ?_ | refine Wk.owns ?_ ?_ ?_ | refine Wk.sl ?_ | refine Wk.ownE ?_ ?_ | refine Wk.str ?_ | refine Wk.d ?_ | refine Wk.agg ?_ | refine Wk.tup ?_ | exact Wk.nil (by decide) rfl | rfl | omega | (simp only [Bool.not_eq_false', Bool.not_eq_true', beq_iff_eq, beq_eq_false_iff_ne, bne_iff_ne, bne_eq_false_iff_eq, ne_eq, Bool.not_false, Bool.not_true, Bool.false_eq_true, Bool.true_eq_false, wrap8, wrap16, wrap32, wrapI, wrapU, fdiv8, fdiv32, List.length_drop, List.length_take, Int.toNat_natCast, decide_eq_true_eq, decide_eq_false_iff_not] at *; omega))
      all_goals skip
    · rw [List.take_of_length_le (by omega)]
      repeat' (first | exact absurd hb Bool.false_ne_true | exact absurd hb.symm Bool.false_ne_true | refine W.seq ?_ | refine W.block ?_ | (refine rg [] ?_; intro K hK) | (refine dr [] ?_; intro K hK) | refine cle [0, 1] 0 (c6) ?_ | refine oq ?_ | refine sk ?_ | (refine nk hK ?_; clear hK K) | (refine nd hK ?_; clear hK K) | refine sp ?_ | refine ex ?_ | (refine gs (fun hb => ?_) (fun hb => ?_) <;> replace hb := nb hb <;> try exact noB hb) | (refine cd (fun hb => ?_) (fun hb => ?_) <;> replace hb := nb hb <;> try exact noB hb) | (with_reducible refine Exists.intro _ (And.intro rfl ?_)) | ((with_reducible refine And.intro ?_ ?_); (focus exact sdA)) | fail)
      refine rt ?_
      refine fin ?_ (ht := by simp only [lxs, List.length_append, List.length_cons, List.length_nil, Nat.zero_add, Nat.add_zero]; rfl)
      exact wqA
/-- A text behind its quote. -/
def textL (s : List UInt8) : Nat → Nat → List UInt8 → Option (List UInt8) × Nat
  | 0, pos, _ => (none, pos)
  | n + 1, pos, acc =>
    if moreB (fun c => decide (c.toNat = 34)) s (pos + spn plainC s pos) = true then (some (acc ++ (s.drop pos).takeWhile plainC), pos + spn plainC s pos + 1)
    else if moreB (fun c => decide (c.toNat = 92)) s (pos + spn plainC s pos) = false then (none, pos + spn plainC s pos)
    else if moreB (fun c => decide (32 ≤ c.toNat)) s (pos + spn plainC s pos + 1) = false then (none, pos + spn plainC s pos + 1)
    else textL s n (pos + spn plainC s pos + 1 + 1) (acc ++ (s.drop pos).takeWhile plainC ++ (if (s.getD (pos + spn plainC s pos + 1) 0).toNat = 34 then [] else [92]) ++ [s.getD (pos + spn plainC s pos + 1) 0])
def txtR (s : List UInt8) (x : LxS) : LSt × LxS :=
  match textL s (s.length + 1) (x.pos + 1) [] with
  | (some t, q) => (.btw, { x with pos := q, out := x.out ++ [⟨3, x.frm, 0, t⟩] })
  | (none, q) => (.nil, { x with pos := q, bad := true })
theorem more_lt {p : UInt8 → Bool} {s : List UInt8} {pos : Nat} (h : moreB p s pos = true) : pos < s.length := by
  unfold moreB at h
  simp only [Bool.and_eq_true, decide_eq_true_eq] at h
  exact h.1
abbrev txo (s : List UInt8) (pos : Nat) (out : List TokS) (bad : Bool) (frm : Nat) (acc : List UInt8) : List Ob := [.cells 113 [bytes s, i64 pos, .own 4 (out.map tokD) 1, bool bad, i64 frm], .cap 46 4 out.length, .cap 5 1 acc.length]
set_option maxHeartbeats 8000000 in
theorem text_fn (s : List UInt8) (x : LxS) (hq : x.pos < s.length) (hl : s.length ≤ 100000) (ho : x.out.length ≤ 100000) : Fn Try.prog 88 [.ptr 0 0] (lxo s x) (txtR s x).1.v (lxo s (txtR s x).2) := by
  obtain ⟨pos, out, bad, frm⟩ := x
  simp only at hq ho
  unfold txtR lxo
  simp only
  generalize hR : textL s (s.length + 1) (pos + 1) [] = R
  refine en Try.func88 (hfr := by (simp only [Try.ntmps88, go_sem, Nat.reduceSub, Nat.reduceAdd]; rfl)) ?_
  repeat' (first | exact absurd hb Bool.false_ne_true | exact absurd hb.symm Bool.false_ne_true | refine W.seq ?_ | refine W.block ?_ | (refine rgx [4] [] ?_; intro K hK) | (refine drx [4] [] ?_; intro K hK) | refine oq ?_ | refine sk ?_ | (refine nk hK ?_; clear hK K) | (refine nd hK ?_; clear hK K) | refine sp ?_ | refine ex ?_ | (refine gs (fun hb => ?_) (fun hb => ?_) <;> replace hb := nb hb <;> try exact noB hb) | (refine cd (fun hb => ?_) (fun hb => ?_) <;> replace hb := nb hb <;> try exact noB hb) | (with_reducible refine Exists.intro _ (And.intro rfl ?_)) | ((with_reducible refine And.intro ?_ ?_); (focus exact sdA)) | fail)
  refine W.ent (Ent.more 1) ?_
  refine W.ent (Ent.nilOwn 5 (i := 2) (q := 1) (fr' := (.ptr 0 0 :: ay 2 (.own 1 [] 2 :: .fn (.func 120) [] [] :: ay 87 []))) rfl (by decide) ?_) ?_
  · skip
    repeat' (first | exact NoL.nil | refine NoL.own ?_ | refine NoL.cons ?_ ?_ | exact Wk.any | exact Wk.rfl)
  refine W.lp (ι := Nat × List UInt8 × Nat) (fun y => (.ptr 0 0 :: ay 2 (.own 1 (y.2.1.map u8) 2 :: .fn (.func 120) [] [] :: ay 87 []))) (fun y => txo s y.1 out bad frm y.2.1) (fun y => y.1 ≤ s.length ∧ s.length < y.1 + y.2.2 ∧ y.2.1.length ≤ y.1 ∧ textL s y.2.2 y.1 y.2.1 = R) (fun y => y.2.2) (pos + 1, [], s.length + 1) ⟨by simp only; omega, by simp only; omega, Nat.zero_le _, hR⟩ (Ent.to ?_ rfl) ?_
  · skip
    exact wkA
  rintro ⟨q, acc, n⟩ ⟨h1, h2, h3, h4⟩
  simp only at h1 h2 h3 h4
  dsimp only
  cases n with
  | zero => omega
  | succ m =>
    unfold textL at h4
    have c1 := pass_fn plain_p s q out bad frm h1 hl
    have hs := spn_le plainC s q h1
    have hw : ((s.drop q).takeWhile plainC).length = spn plainC s q := rfl
    generalize (s.drop q).takeWhile plainC = w at *
    have hwl : w.length ≤ 100000 ∧ w.length + q ≤ q + spn plainC s q := by omega
    generalize q + spn plainC s q = q1 at *
    obtain ⟨hwl, hwq⟩ := hwl
    have c2 := more_fn quote_p s q1 out bad frm
    have c3 := more_fn slash_p s q1 out bad frm
    have c4 := more_fn print_p s (q1 + 1) out bad frm
    have e0 : acc.map u8 ++ w.map u8 = (acc ++ w).map u8 := by rw [List.map_append]
    cases k2 : moreB (fun c => decide (c.toNat = 34)) s q1 with
    | true =>
      rw [k2] at c2 h4
      rw [if_pos rfl] at h4
      subst h4
      have k3 := more_lt k2
      have c6 := add_fn s (q1 + 1) out bad frm 3 0 (acc ++ w) ho (by simp; omega)
      repeat' (first | exact absurd hb Bool.false_ne_true | exact absurd hb.symm Bool.false_ne_true | refine W.seq ?_ | refine W.block ?_ | (refine rg [] ?_; intro K hK) | (refine dr [] ?_; intro K hK) | refine cle [0, 1] 0 (c1) ?_ | refine cle [0, 1] 0 (c2) ?_ | refine cle [0, 1] 0 (c6) ?_ | refine oq ?_ | refine sk ?_ | (refine nk hK ?_; clear hK K) | (refine nd hK ?_; clear hK K) | refine sp ?_ | refine ex ?_ | (refine gs (fun hb => ?_) (fun hb => ?_) <;> replace hb := nb hb <;> try exact noB hb) | (refine cd (fun hb => ?_) (fun hb => ?_) <;> replace hb := nb hb <;> try exact noB hb) | (with_reducible refine Exists.intro _ (And.intro rfl ?_)) | ((with_reducible refine And.intro ?_ ?_); (focus exact sdA)) | fail)
      refine rt ?_
      refine fin ?_ (ht := by simp only [lxs, List.length_append, List.length_cons, List.length_nil, Nat.zero_add, Nat.add_zero]; rfl)
      exact wqA
    | false =>
      rw [k2] at c2 h4
      rw [if_neg (by decide)] at h4
      cases k3 : moreB (fun c => decide (c.toNat = 92)) s q1 with
      | false =>
        rw [k3] at c3 h4
        rw [if_pos rfl] at h4
        subst h4
        have c5 := fail_fn s q1 out bad frm q1
        repeat' (first | exact absurd hb Bool.false_ne_true | exact absurd hb.symm Bool.false_ne_true | refine W.seq ?_ | refine W.block ?_ | (refine rg [] ?_; intro K hK) | (refine dr [] ?_; intro K hK) | refine cle [0, 1] 0 (c1) ?_ | refine cle [0, 1] 0 (c2) ?_ | refine cle [0, 1] 0 (c3) ?_ | refine cle [0, 1] 0 (c5) ?_ | refine oq ?_ | refine sk ?_ | (refine nk hK ?_; clear hK K) | (refine nd hK ?_; clear hK K) | refine sp ?_ | refine ex ?_ | (refine gs (fun hb => ?_) (fun hb => ?_) <;> replace hb := nb hb <;> try exact noB hb) | (refine cd (fun hb => ?_) (fun hb => ?_) <;> replace hb := nb hb <;> try exact noB hb) | (with_reducible refine Exists.intro _ (And.intro rfl ?_)) | ((with_reducible refine And.intro ?_ ?_); (focus exact sdA)) | fail)
        all_goals (refine rt ?_; refine fin ?_; exact wqA)
      | true =>
        rw [k3] at c3 h4
        rw [if_neg (by decide)] at h4
        have k4 := more_lt k3
        cases k5 : moreB (fun c => decide (32 ≤ c.toNat)) s (q1 + 1) with
        | false =>
          rw [k5] at c4 h4
          rw [if_pos rfl] at h4
          subst h4
          have c5 := fail_fn s (q1 + 1) out bad frm (q1 + 1)
          repeat' (first | exact absurd hb Bool.false_ne_true | exact absurd hb.symm Bool.false_ne_true | refine W.seq ?_ | refine W.block ?_ | (refine rg [] ?_; intro K hK) | (refine dr [] ?_; intro K hK) | refine cle [0, 1] 0 (c1) ?_ | refine cle [0, 1] 0 (c2) ?_ | refine cle [0, 1] 0 (c3) ?_ | refine cle [0, 1] 0 (c4) ?_ | refine cle [0, 1] 0 (c5) ?_ | refine oq ?_ | refine sk ?_ | (refine nk hK ?_; clear hK K) | (refine nd hK ?_; clear hK K) | refine sp ?_ | refine ex ?_ | (refine gs (fun hb => ?_) (fun hb => ?_) <;> replace hb := nb hb <;> try exact noB hb) | (refine cd (fun hb => ?_) (fun hb => ?_) <;> replace hb := nb hb <;> try exact noB hb) | (with_reducible refine Exists.intro _ (And.intro rfl ?_)) | ((with_reducible refine And.intro ?_ ?_); (focus exact sdA)) | fail)
          all_goals (refine rt ?_; refine fin ?_; exact wqA)
        | true =>
          rw [k5] at c4 h4
          rw [if_neg (by decide)] at h4
          have k6 := more_lt k5
          have e1 : (acc ++ w).map u8 ++ [D.int .u8 92] ++ [u8 (s.getD (q1 + 1) 0)] = (acc ++ w ++ [92] ++ [s.getD (q1 + 1) 0]).map u8 := by simp only [List.map_append, List.map_cons, List.map_nil]; rfl
          have e2 : (acc ++ w).map u8 ++ [u8 (s.getD (q1 + 1) 0)] = (acc ++ w ++ [s.getD (q1 + 1) 0]).map u8 := by simp only [List.map_append, List.map_cons, List.map_nil]
          repeat' (first | exact absurd hb Bool.false_ne_true | exact absurd hb.symm Bool.false_ne_true | refine W.seq ?_ | refine W.block ?_ | (refine rg [] ?_; intro K hK) | (refine dr [] ?_; intro K hK) | refine cle [0, 1] 0 (c1) ?_ | refine cle [0, 1] 0 (c2) ?_ | refine cle [0, 1] 0 (c3) ?_ | refine cle [0, 1] 0 (c4) ?_ | refine oq ?_ | refine sk ?_ | (refine nk hK ?_; clear hK K) | (refine nd hK ?_; clear hK K) | refine sp ?_ | refine ex ?_ | (refine gs (fun hb => ?_) (fun hb => ?_) <;> replace hb := nb hb <;> try exact noB hb) | (refine cd (fun hb => ?_) (fun hb => ?_) <;> replace hb := nb hb <;> try exact noB hb) | (with_reducible refine Exists.intro _ (And.intro rfl ?_)) | ((with_reducible refine And.intro ?_ ?_); (focus exact sdA)) | fail)
          · rw [if_neg (by omega)] at h4
            rw [e1]
            refine nx (q1 + 1 + 1, acc ++ w ++ [92] ++ [s.getD (q1 + 1) 0], m) ⟨by simp only; omega, by simp only; omega, by simp; omega, h4⟩ (by simp only; omega) (sb [0, 1, 2] _ _ (hf := ?_))
            exact wkA
          · rw [if_pos (by omega), List.append_nil] at h4
            rw [e2]
            refine nx (q1 + 1 + 1, acc ++ w ++ [s.getD (q1 + 1) 0], m) ⟨by simp only; omega, by simp only; omega, by simp; omega, h4⟩ (by simp only; omega) (sb [0, 1, 2] _ _ (hf := ?_))
            exact wkA
end Go.Proofs.Ytgebfcdcpmmgnaa.Vs
