/- instructions: Build; instructions, as the document says: pieces without bounds; plain Lean. -/
import Derived.Test.YtgebfcdcpmmgnaaVnH
set_option linter.unusedVariables false
set_option linter.unusedSimpArgs false
namespace Go.Proofs.Ytgebfcdcpmmgnaa.Vs
open Go.RowKit
set_option maxRecDepth 100000
def doneI : InstS := ⟨4, 0, 0, false, []⟩
/-- What ops are built to, and an error's number. -/
def buildS (l : List OpS) : List InstS × Int :=
  match runN l ([], 0) with
  | some ([x], many) => if 200 < many + 1 then ([], 3) else (x ++ [doneI], 0)
  | _ => ([], 1)
inductive Top where
  | no | nil | own (x : List InstS)
abbrev mkE : List (D × V × Nat) := [(.int .i64 1, .fn (.func 102) [] [], 0), (.int .i64 2, .fn (.func 103) [] [], 1), (.int .i64 3, .fn (.func 104) [] [], 2), (.int .i64 4, .fn (.func 105) [] [], 3), (.int .i64 5, .fn (.func 106) [] [], 4), (.int .i64 6, .fn (.func 107) [] [], 5), (.int .i64 7, .fn (.func 108) [] [], 6)]
abbrev bS (k : Nat) (rows : List (List InstS)) (many : Int) : Top → List Ob
  | .no => [.cells 141 [.hd 1 k rows.length, i64 many, bool false], .grw 69 1 k rows.length (rowsV rows), .mp mkE 7]
  | .nil => [.cells 141 [.hd 1 k (rows.length + 1), i64 many, bool false], .grw 69 1 k (rows.length + 1) (rowsV rows ++ [.nil]), .mp mkE 7]
  | .own x => [.cells 141 [.hd 1 k (rows.length + 1), i64 many, bool false], .grw 69 1 k (rows.length + 1) (rowsV rows ++ [.own 5 (x.map instD) 3]), .mp mkE 7, .cap 81 5 x.length]
def bR (rows : List (List InstS)) : Top → List (List InstS)
  | .no => rows
  | .nil => rows ++ [[]]
  | .own x => rows ++ [x]
abbrev bF (l : List OpS) (i : Nat) : List V := (.d (opsD l) :: ay 3 (.ptr 0 0 :: .map 2 :: ay 6 (.d (opsD l) :: i64 l.length :: i64 i :: ay 41 [])))
theorem wkl_app {us vs : List V} : ∀ {xs ys : List V}, WkL xs ys → WkL us vs → WkL (xs ++ us) (ys ++ vs)
  | [], _, h, k => by cases h; exact k
  | x :: xs, _, h, k => by
    cases h with
    | cons h t => exact .cons h (wkl_app t k)
theorem wkl_rfl : ∀ {xs : List V}, WkL xs xs
  | [] => .nil
  | _ :: _ => .cons .rfl wkl_rfl
theorem bS_lt (k n : Nat) (rows : List (List InstS)) (many : Int) : [Ob.cells 141 [.hd 1 k n, i64 many, bool false], .grw 69 1 k n (rowsV rows), .mp mkE 7].all (Ob.lt 3) = true := by
  simp only [Ob.lt, V.ltL, V.lt, ltL_dmap, List.all_cons, List.all_nil, Nat.reduceLT, decide_true, Bool.and_self, Bool.and_true]
  rfl
theorem bS_lto (k n : Nat) (rows : List (List InstS)) (x : List D) (m : Nat) (many : Int) : [Ob.cells 141 [.hd 1 k n, i64 many, bool false], .grw 69 1 k n (rowsV rows ++ [.own 5 x 3]), .mp mkE 7, .cap 81 5 m].all (Ob.lt 4) = true := by
  simp only [Ob.lt, V.ltL, V.lt, ltL_app, ltL_dmap, List.all_cons, List.all_nil, Nat.reduceLT, decide_true, Bool.and_self, Bool.and_true]
  rfl
theorem bS_ltn (k n : Nat) (rows : List (List InstS)) (many : Int) : [Ob.cells 141 [.hd 1 k n, i64 many, bool false], .grw 69 1 k n (rowsV rows ++ [.nil]), .mp mkE 7].all (Ob.lt 3) = true := by
  simp only [Ob.lt, V.ltL, V.lt, ltL_app, ltL_dmap, List.all_cons, List.all_nil, Nat.reduceLT, decide_true, Bool.and_self, Bool.and_true]
  rfl
theorem bNo (l : List OpS) (i k : Nat) (rows : List (List InstS)) (many : Int) (top : Top) : Ent 0 (bF l i) (bS k rows many top) (bF l i) [.cells 141 [.hd 1 k (bR rows top).length, i64 many, bool false], .grw 69 1 k (bR rows top).length (rowsV (bR rows top)), .mp mkE 7] := by
  cases top with
  | no => exact Ent.rfl'
  | nil =>
    show Ent 0 _ _ _ [.cells 141 [.hd 1 k (rows ++ [[]]).length, i64 many, bool false], .grw 69 1 k (rows ++ [[]]).length (rowsV (rows ++ [[]])), .mp mkE 7]
    rw [snocL]
    refine sb [0, 1, 2] _ _ (hσ := ?_) (ho := bS_lt ..)
    refine .cons rfl .rfl (.cons rfl (.grw ?_) (.cons rfl .rfl .nil))
    show WkL _ (rowsV (rows ++ [_]))
    rw [rowsV_snoc]
    refine wkl_app wkl_rfl (.cons (.nil (by decide) rfl) .nil)
  | own x =>
    show Ent 0 _ _ _ [.cells 141 [.hd 1 k (rows ++ [x]).length, i64 many, bool false], .grw 69 1 k (rows ++ [x]).length (rowsV (rows ++ [x])), .mp mkE 7]
    rw [snocL]
    refine sb [0, 1, 2] _ _ (hσ := ?_) (ho := bS_lt ..)
    refine .cons rfl .rfl (.cons rfl (.grw ?_) (.cons rfl .rfl .nil))
    show WkL _ (rowsV (rows ++ [_]))
    rw [rowsV_snoc]
    refine wkl_app wkl_rfl (.cons (.own rfl rfl) .nil)
structure BP (l : List OpS) (i : Nat) (rows : List (List InstS)) (many : Int) (top : Top) (st : List (List InstS)) : Prop where
  ile : i ≤ l.length
  run : runN (l.take i) ([], 0) = some (st, many)
  rws : bR rows top = st.reverse
  tp : many ≤ 200 → st ≠ [] → top ≠ .no
  tot : (total st : Int) ≤ many
  lo : 0 ≤ many
  hi : many ≤ 2 * (i : Int)
  len : st.length ≤ i
theorem BP.next {l : List OpS} {i : Nat} {rows rows' r : List (List InstS)} {many many' : Int} {top top' : Top} {st : List (List InstS)} {x : List InstS} (h : BP l i rows many top st) (hlt : i < l.length) (hst : stepN (l.getD i OpS.zero) (st, many) = some (x :: r, many')) (hr : bR rows' top' = (x :: r).reverse) (ht : many' ≤ 200 → top' ≠ .no) : BP l (i + 1) rows' many' top' (x :: r) := by
  obtain ⟨hi, hrun, hrw, htp, htot, hlo, hmn, hln⟩ := h
  have hfit := stepN_fit hst htot
  simp only [List.length_cons] at hfit
  refine ⟨by omega, ?_, hr, fun h _ => ht h, by omega, by omega, by omega, by simp only [List.length_cons]; omega⟩
  rw [List.take_add_one, gdS hlt OpS.zero]
  show runN (l.take i ++ [l.getD i OpS.zero]) ([], 0) = _
  rw [runN_snoc, hrun]
  exact hst
set_option maxHeartbeats 4000000 in
theorem build_fn (l : List OpS) (hl : l.length ≤ 1000) (hs : ∀ o ∈ l, o.spans.length ≤ 10000) : Fn Try.prog 34 [.d (opsD l)] [] (.tup [.d (instsD (buildS l).1), i64 (buildS l).2]) [] := by
  refine en Try.func34 (hfr := by (simp only [Try.ntmps34, go_sem, Nat.reduceSub, Nat.reduceAdd]; rfl)) ?_
  repeat' (first | exact absurd hb Bool.false_ne_true | exact absurd hb.symm Bool.false_ne_true | refine W.seq ?_ | refine W.block ?_ | (refine rgx [2] [] ?_; intro K hK) | (refine drx [2] [] ?_; intro K hK) | refine oq ?_ | refine sk ?_ | (refine nk hK ?_; clear hK K) | (refine nd hK ?_; clear hK K) | refine sp ?_ | refine ex ?_ | (refine gs (fun hb => ?_) (fun hb => ?_) <;> replace hb := nb hb <;> try exact noB hb) | (refine cd (fun hb => ?_) (fun hb => ?_) <;> replace hb := nb hb <;> try exact noB hb) | (with_reducible refine Exists.intro _ (And.intro rfl ?_)) | ((with_reducible refine And.intro ?_ ?_); (focus exact sdA)) | fail)
  refine W.ent (Ent.more 1) ?_
  refine W.ent (Ent.nilHdC (i := 1) (j := 0) (kk := 0) (q := 1) (e := 69) (us := [.hd 1 0 0, i64 0, bool false]) rfl rfl ?_) ?_
  · exact .hd (.cons .rfl (.cons .rfl .nil))
  refine W.ent (σ' := [.cells 141 [.hd 1 0 0, i64 0, bool false], .grw 69 1 0 0 []]) Ent.rfl' ?_
  refine W.ent (Ent.more 1) ?_
  repeat' (first | exact absurd hb Bool.false_ne_true | exact absurd hb.symm Bool.false_ne_true | refine W.seq ?_ | refine W.block ?_ | (refine rgx [4] [] ?_; intro K hK) | (refine drx [4] [] ?_; intro K hK) | refine cle [2] 1 (makers_fn) ?_ | refine oq ?_ | refine sk ?_ | (refine nk hK ?_; clear hK K) | (refine nd hK ?_; clear hK K) | refine sp ?_ | refine ex ?_ | (refine gs (fun hb => ?_) (fun hb => ?_) <;> replace hb := nb hb <;> try exact noB hb) | (refine cd (fun hb => ?_) (fun hb => ?_) <;> replace hb := nb hb <;> try exact noB hb) | (with_reducible refine Exists.intro _ (And.intro rfl ?_)) | ((with_reducible refine And.intro ?_ ?_); (focus exact sdA)) | fail)
  refine W.lp (ι := Nat × Nat × List (List InstS) × Int × Top) (fun x => bF l x.1) (fun x => bS x.2.1 x.2.2.1 x.2.2.2.1 x.2.2.2.2) (fun x => ∃ st, BP l x.1 x.2.2.1 x.2.2.2.1 x.2.2.2.2 st) (fun x => l.length - x.1) (0, 0, [], 0, .no) ⟨[], ⟨Nat.zero_le _, rfl, rfl, fun _ h => absurd rfl h, by decide, by decide, by decide, Nat.le_refl _⟩⟩ (Ent.to ?_ rfl) ?_
  · skip
    exact wkA
  rintro ⟨i, k, rows, many, top⟩ ⟨st, hB⟩
  simp only at hB
  dsimp only
  have hB0 := hB
  obtain ⟨hi, hrun, hrw, htp, htot, hlo, hmn, hln⟩ := hB
  by_cases hlt : i < l.length
  · have hx := gdS hlt OpS.zero
    have hsp := hs _ (List.mem_of_getElem? hx)
    refine W.ent (bNo l i k rows many top) ?_
    rw [hrw]
    have hd := op_do (l.getD i OpS.zero) k st many (by omega) hsp (by omega) htot
    have hnext : runN (l.take (i + 1)) ([], 0) = stepN (l.getD i OpS.zero) (st, many) := by
      rw [List.take_add_one, hx]
      show runN (l.take i ++ [l.getD i OpS.zero]) ([], 0) = _
      rw [runN_snoc, hrun]
      rfl
    refine W.ent (Ent.more 1) ?_
    repeat' (first | exact absurd hb Bool.false_ne_true | exact absurd hb.symm Bool.false_ne_true | refine W.seq ?_ | refine W.block ?_ | (refine rgx [7] [] ?_; intro K hK) | (refine drx [7] [] ?_; intro K hK) | refine oq ?_ | refine sk ?_ | (refine nk hK ?_; clear hK K) | (refine nd hK ?_; clear hK K) | refine sp ?_ | refine ex ?_ | (refine gs (fun hb => ?_) (fun hb => ?_) <;> replace hb := nb hb <;> try exact noB hb) | (refine cd (fun hb => ?_) (fun hb => ?_) <;> replace hb := nb hb <;> try exact noB hb) | (with_reducible refine Exists.intro _ (And.intro rfl ?_)) | ((with_reducible refine And.intro ?_ ?_); (focus exact sdA)) | fail)
    refine W.ent (Ent.to (fr' := (.d (opsD l) :: ay 3 (.ptr 0 0 :: .map 2 :: ay 1 (.ptr 4 0 :: opFn (l.getD i OpS.zero).kind :: ay 3 (.d (opsD l) :: i64 l.length :: i64 i :: ay 41 []))))) ?_ rfl) ?_
    · skip
      repeat' (first | exact WkL.nil | refine WkL.cons ?_ ?_ | exact Wk.any | exact Wk.rfl | exact Wk.own rfl rfl | exact Wk.nil (by decide) rfl | refine Wk.int ?_ | refine Wk.bool ?_ | refine Wk.row ?_ ?_ ?_ ?_ | refine Wk.owns ?_ ?_ ?_ | refine Wk.sl ?_ | refine Wk.ownE ?_ ?_ | refine Wk.str ?_ | refine Wk.d ?_ | refine Wk.agg ?_ | refine Wk.tup ?_ | exact Wk.nil (by decide) rfl | rfl | omega | (simp only [Bool.not_eq_false', Bool.not_eq_true', beq_iff_eq, beq_eq_false_iff_ne, bne_iff_ne, bne_eq_false_iff_eq, ne_eq, Bool.not_false, Bool.not_true, Bool.false_eq_true, Bool.true_eq_false, wrap8, wrap16, wrap32, wrapI, wrapU, fdiv8, fdiv32, List.length_drop, List.length_take, Int.toNat_natCast, decide_eq_true_eq, decide_eq_false_iff_not] at *; omega))
    unfold OpDo at hd
    cases hst : stepN (l.getD i OpS.zero) (st, many) with
    | none =>
      rw [hst] at hd
      have hnone : buildS l = ([], 1) := by
        unfold buildS
        rw [← List.take_append_drop (i + 1) l, runN_none _ _ _ (hnext.trans hst)]
      rw [hnone]
      rcases hd with hf | ⟨f, k', rows', many', hf, c⟩
      · rw [hf]
        repeat' (first | exact absurd hb Bool.false_ne_true | exact absurd hb.symm Bool.false_ne_true | refine W.seq ?_ | refine W.block ?_ | (refine rg [] ?_; intro K hK) | (refine dr [] ?_; intro K hK) | refine oq ?_ | refine sk ?_ | (refine nk hK ?_; clear hK K) | (refine nd hK ?_; clear hK K) | refine sp ?_ | refine ex ?_ | (refine gs (fun hb => ?_) (fun hb => ?_) <;> replace hb := nb hb <;> try exact noB hb) | (refine cd (fun hb => ?_) (fun hb => ?_) <;> replace hb := nb hb <;> try exact noB hb) | (with_reducible refine Exists.intro _ (And.intro rfl ?_)) | ((with_reducible refine And.intro ?_ ?_); (focus exact sdA)) | fail)
        all_goals (refine rt ?_; refine fin ?_; exact wqA)
      · rw [hf]
        repeat' (first | exact absurd hb Bool.false_ne_true | exact absurd hb.symm Bool.false_ne_true | refine W.seq ?_ | refine W.block ?_ | (refine rg [] ?_; intro K hK) | (refine dr [] ?_; intro K hK) | refine cle [0, 1] 0 (c) ?_ | refine oq ?_ | refine sk ?_ | (refine nk hK ?_; clear hK K) | (refine nd hK ?_; clear hK K) | refine sp ?_ | refine ex ?_ | (refine gs (fun hb => ?_) (fun hb => ?_) <;> replace hb := nb hb <;> try exact noB hb) | (refine cd (fun hb => ?_) (fun hb => ?_) <;> replace hb := nb hb <;> try exact noB hb) | (with_reducible refine Exists.intro _ (And.intro rfl ?_)) | ((with_reducible refine And.intro ?_ ?_); (focus exact sdA)) | fail)
        all_goals (refine rt ?_; refine fin ?_; exact wqA)
    | some q =>
      rw [hst] at hd hnext
      obtain ⟨ys, many'⟩ := q
      have hfit := stepN_fit hst htot
      cases ys with
      | nil => exact hd.elim
      | cons x r =>
        simp only at hd
        obtain ⟨f, k', hf, hd⟩ := hd
        simp only [List.length_cons] at hfit
        rw [hf]
        rcases hd with ⟨hbig, c⟩ | ⟨hsm, c⟩ | ⟨hsm, hx0, c⟩
        · have hB1 : BP l (i + 1) (x :: r).reverse many' .no (x :: r) := hB0.next hlt hst rfl (fun h => absurd h (by omega))
          repeat' (first | exact absurd hb Bool.false_ne_true | exact absurd hb.symm Bool.false_ne_true | refine W.seq ?_ | refine W.block ?_ | (refine rg [] ?_; intro K hK) | (refine dr [] ?_; intro K hK) | refine cle [0, 1] 0 (c) ?_ | refine oq ?_ | refine sk ?_ | (refine nk hK ?_; clear hK K) | (refine nd hK ?_; clear hK K) | refine sp ?_ | refine ex ?_ | (refine gs (fun hb => ?_) (fun hb => ?_) <;> replace hb := nb hb <;> try exact noB hb) | (refine cd (fun hb => ?_) (fun hb => ?_) <;> replace hb := nb hb <;> try exact noB hb) | (with_reducible refine Exists.intro _ (And.intro rfl ?_)) | ((with_reducible refine And.intro ?_ ?_); (focus exact sdA)) | fail)
          refine nx (i + 1, k', (x :: r).reverse, many', .no) ⟨x :: r, hB1⟩ (by simp only; omega) (sb [0, 1, 2] _ _ (hf := ?_) (ho := bS_lt ..))
          exact wkA
        · skip
          repeat' (first | exact absurd hb Bool.false_ne_true | exact absurd hb.symm Bool.false_ne_true | refine W.seq ?_ | refine W.block ?_ | (refine rg [] ?_; intro K hK) | (refine dr [] ?_; intro K hK) | ((refine cle [0, 1, 3] 1 (c) ?_ (ho' := mko_lt ..))) | refine oq ?_ | refine sk ?_ | (refine nk hK ?_; clear hK K) | (refine nd hK ?_; clear hK K) | refine sp ?_ | refine ex ?_ | (refine gs (fun hb => ?_) (fun hb => ?_) <;> replace hb := nb hb <;> try exact noB hb) | (refine cd (fun hb => ?_) (fun hb => ?_) <;> replace hb := nb hb <;> try exact noB hb) | (with_reducible refine Exists.intro _ (And.intro rfl ?_)) | ((with_reducible refine And.intro ?_ ?_); (focus exact sdA)) | fail)
          have hB1 : BP l (i + 1) r.reverse many' (.own x) (x :: r) := hB0.next hlt hst (by rw [List.reverse_cons]; rfl) (fun _ h => by cases h)
          refine nx (i + 1, k', r.reverse, many', .own x) ⟨x :: r, hB1⟩ (by simp only; omega) (sb [0, 1, 2, 3] (bF l (i + 1)) [.cells 141 [.hd 1 k' (r.reverse.length + 1), i64 many', bool false], .grw 69 1 k' (r.reverse.length + 1) (rowsV r.reverse ++ [.own 5 (x.map instD) 3]), .mp mkE 7, .cap 81 5 x.length] (hf := ?_) (ho := bS_lto ..))
          exact wkA
        · subst hx0
          repeat' (first | exact absurd hb Bool.false_ne_true | exact absurd hb.symm Bool.false_ne_true | refine W.seq ?_ | refine W.block ?_ | (refine rg [] ?_; intro K hK) | (refine dr [] ?_; intro K hK) | ((refine cle [0, 1] 0 (c) ?_ (ho' := mkn_lt ..))) | refine oq ?_ | refine sk ?_ | (refine nk hK ?_; clear hK K) | (refine nd hK ?_; clear hK K) | refine sp ?_ | refine ex ?_ | (refine gs (fun hb => ?_) (fun hb => ?_) <;> replace hb := nb hb <;> try exact noB hb) | (refine cd (fun hb => ?_) (fun hb => ?_) <;> replace hb := nb hb <;> try exact noB hb) | (with_reducible refine Exists.intro _ (And.intro rfl ?_)) | ((with_reducible refine And.intro ?_ ?_); (focus exact sdA)) | fail)
          have hB1 : BP l (i + 1) r.reverse many' .nil ([] :: r) := hB0.next hlt hst (by rw [List.reverse_cons]; rfl) (fun _ h => by cases h)
          refine nx (i + 1, k', r.reverse, many', .nil) ⟨[] :: r, hB1⟩ (by simp only; omega) (sb [0, 1, 2] (bF l (i + 1)) [.cells 141 [.hd 1 k' (r.reverse.length + 1), i64 many', bool false], .grw 69 1 k' (r.reverse.length + 1) (rowsV r.reverse ++ [.nil]), .mp mkE 7] (hf := ?_) (ho := bS_ltn ..))
          exact wkA
  · rw [List.take_of_length_le (by omega)] at hrun
    cases top with
    | no =>
      have hrw : rows = st.reverse := hrw
      dsimp only [bS]
      by_cases h1 : rows.length = 1
      · have hst1 : st.length = 1 := by rw [hrw, List.length_reverse] at h1; exact h1
        obtain ⟨x, rfl⟩ := List.length_eq_one_iff.1 hst1
        have hbig : 200 < many := by
          rcases Int.lt_or_le 200 many with h | h
          · exact h
          · exact absurd rfl (htp h (by simp))
        have hb0 : buildS l = ([], 3) := by
          unfold buildS
          rw [hrun]
          exact if_pos (by omega)
        rw [hb0]
        repeat' (first | exact absurd hb Bool.false_ne_true | exact absurd hb.symm Bool.false_ne_true | refine W.seq ?_ | refine W.block ?_ | (refine rg [] ?_; intro K hK) | (refine dr [] ?_; intro K hK) | refine oq ?_ | refine sk ?_ | (refine nk hK ?_; clear hK K) | (refine nd hK ?_; clear hK K) | refine sp ?_ | refine ex ?_ | (refine gs (fun hb => ?_) (fun hb => ?_) <;> replace hb := nb hb <;> try exact noB hb) | (refine cd (fun hb => ?_) (fun hb => ?_) <;> replace hb := nb hb <;> try exact noB hb) | (with_reducible refine Exists.intro _ (And.intro rfl ?_)) | ((with_reducible refine And.intro ?_ ?_); (focus exact sdA)) | fail)
        all_goals (refine rt ?_; refine fin ?_; exact wqA)
      · have hb0 : buildS l = ([], 1) := by
          unfold buildS
          rw [hrun]
          match st, hrw with
          | [], _ => rfl
          | [x], hrw => rw [hrw] at h1; simp at h1
          | _ :: _ :: _, _ => rfl
        rw [hb0]
        repeat' (first | exact absurd hb Bool.false_ne_true | exact absurd hb.symm Bool.false_ne_true | refine W.seq ?_ | refine W.block ?_ | (refine rg [] ?_; intro K hK) | (refine dr [] ?_; intro K hK) | refine oq ?_ | refine sk ?_ | (refine nk hK ?_; clear hK K) | (refine nd hK ?_; clear hK K) | refine sp ?_ | refine ex ?_ | (refine gs (fun hb => ?_) (fun hb => ?_) <;> replace hb := nb hb <;> try exact noB hb) | (refine cd (fun hb => ?_) (fun hb => ?_) <;> replace hb := nb hb <;> try exact noB hb) | (with_reducible refine Exists.intro _ (And.intro rfl ?_)) | ((with_reducible refine And.intro ?_ ?_); (focus exact sdA)) | fail)
        all_goals (refine rt ?_; refine fin ?_; exact wqA)
    | nil =>
      have hrw : rows ++ [[]] = st.reverse := hrw
      dsimp only [bS]
      cases rows with
      | nil =>
        have hst1 : st = [[]] := by
          have := congrArg List.reverse hrw
          simpa using this.symm
        subst hst1
        by_cases hbig : 200 < many + 1
        · have hb0 : buildS l = ([], 3) := by
            unfold buildS
            rw [hrun]
            exact if_pos hbig
          rw [hb0]
          simp only [rowsV, List.map_nil, List.nil_append, List.length_nil, Nat.zero_add]
          repeat' (first | exact absurd hb Bool.false_ne_true | exact absurd hb.symm Bool.false_ne_true | refine W.seq ?_ | refine W.block ?_ | (refine rg [] ?_; intro K hK) | (refine dr [] ?_; intro K hK) | refine oq ?_ | refine sk ?_ | (refine nk hK ?_; clear hK K) | (refine nd hK ?_; clear hK K) | refine sp ?_ | refine ex ?_ | (refine gs (fun hb => ?_) (fun hb => ?_) <;> replace hb := nb hb <;> try exact noB hb) | (refine cd (fun hb => ?_) (fun hb => ?_) <;> replace hb := nb hb <;> try exact noB hb) | (with_reducible refine Exists.intro _ (And.intro rfl ?_)) | ((with_reducible refine And.intro ?_ ?_); (focus exact sdA)) | fail)
          all_goals (refine rt ?_; refine fin ?_; exact wqA)
        · have hb0 : buildS l = ([doneI], 0) := by
            unfold buildS
            rw [hrun]
            exact if_neg hbig
          rw [hb0]
          simp only [rowsV, List.map_nil, List.nil_append, List.length_nil, Nat.zero_add]
          repeat' (first | exact absurd hb Bool.false_ne_true | exact absurd hb.symm Bool.false_ne_true | refine W.seq ?_ | refine W.block ?_ | (refine rg [] ?_; intro K hK) | (refine dr [] ?_; intro K hK) | refine oq ?_ | refine sk ?_ | (refine nk hK ?_; clear hK K) | (refine nd hK ?_; clear hK K) | refine sp ?_ | refine ex ?_ | (refine gs (fun hb => ?_) (fun hb => ?_) <;> replace hb := nb hb <;> try exact noB hb) | (refine cd (fun hb => ?_) (fun hb => ?_) <;> replace hb := nb hb <;> try exact noB hb) | (with_reducible refine Exists.intro _ (And.intro rfl ?_)) | ((with_reducible refine And.intro ?_ ?_); (focus exact sdA)) | fail)
          all_goals (refine rt ?_; refine fin ?_; exact wqA)
      | cons r rs =>
        have hb0 : buildS l = ([], 1) := by
          unfold buildS
          rw [hrun]
          match st, hrw with
          | [], _ => rfl
          | [x], hrw => simp at hrw
          | _ :: _ :: _, _ => rfl
        rw [hb0]
        have hne : ((r :: rs).length : Int) + 1 ≠ 1 := by simp only [List.length_cons]; omega
        generalize r :: rs = rows at hne
        repeat' (first | exact absurd hb Bool.false_ne_true | exact absurd hb.symm Bool.false_ne_true | refine W.seq ?_ | refine W.block ?_ | (refine rg [] ?_; intro K hK) | (refine dr [] ?_; intro K hK) | refine oq ?_ | refine sk ?_ | (refine nk hK ?_; clear hK K) | (refine nd hK ?_; clear hK K) | refine sp ?_ | refine ex ?_ | (refine gs (fun hb => ?_) (fun hb => ?_) <;> replace hb := nb hb <;> try exact noB hb) | (refine cd (fun hb => ?_) (fun hb => ?_) <;> replace hb := nb hb <;> try exact noB hb) | (with_reducible refine Exists.intro _ (And.intro rfl ?_)) | ((with_reducible refine And.intro ?_ ?_); (focus exact sdA)) | fail)
        all_goals (refine rt ?_; refine fin ?_; exact wqA)
    | own x =>
      have hrw : rows ++ [x] = st.reverse := hrw
      dsimp only [bS]
      cases rows with
      | nil =>
        have hst1 : st = [x] := by
          have := congrArg List.reverse hrw
          simpa using this.symm
        subst hst1
        have hxl : x.length ≤ 10000 := by
          rw [total_cons] at htot
          omega
        by_cases hbig : 200 < many + 1
        · have hb0 : buildS l = ([], 3) := by
            unfold buildS
            rw [hrun]
            exact if_pos hbig
          rw [hb0]
          simp only [rowsV, List.map_nil, List.nil_append, List.length_nil, Nat.zero_add]
          repeat' (first | exact absurd hb Bool.false_ne_true | exact absurd hb.symm Bool.false_ne_true | refine W.seq ?_ | refine W.block ?_ | (refine rg [] ?_; intro K hK) | (refine dr [] ?_; intro K hK) | refine oq ?_ | refine sk ?_ | (refine nk hK ?_; clear hK K) | (refine nd hK ?_; clear hK K) | refine sp ?_ | refine ex ?_ | (refine gs (fun hb => ?_) (fun hb => ?_) <;> replace hb := nb hb <;> try exact noB hb) | (refine cd (fun hb => ?_) (fun hb => ?_) <;> replace hb := nb hb <;> try exact noB hb) | (with_reducible refine Exists.intro _ (And.intro rfl ?_)) | ((with_reducible refine And.intro ?_ ?_); (focus exact sdA)) | fail)
          all_goals (refine rt ?_; refine fin ?_; exact wqA)
        · have hb0 : buildS l = (x ++ [doneI], 0) := by
            unfold buildS
            rw [hrun]
            exact if_neg hbig
          rw [hb0]
          simp only [rowsV, List.map_nil, List.nil_append, List.length_nil, Nat.zero_add]
          repeat' (first | exact absurd hb Bool.false_ne_true | exact absurd hb.symm Bool.false_ne_true | refine W.seq ?_ | refine W.block ?_ | (refine rg [] ?_; intro K hK) | (refine dr [] ?_; intro K hK) | refine oq ?_ | refine sk ?_ | (refine nk hK ?_; clear hK K) | (refine nd hK ?_; clear hK K) | refine sp ?_ | refine ex ?_ | (refine gs (fun hb => ?_) (fun hb => ?_) <;> replace hb := nb hb <;> try exact noB hb) | (refine cd (fun hb => ?_) (fun hb => ?_) <;> replace hb := nb hb <;> try exact noB hb) | (with_reducible refine Exists.intro _ (And.intro rfl ?_)) | ((with_reducible refine And.intro ?_ ?_); (focus exact sdA)) | fail)
          have he : x.map instD ++ [.agg [.int .i64 4, .int .i64 0, .int .i64 0, .bool false, .sl 2 []]] = (x ++ [doneI]).map instD := by rw [List.map_append]; rfl
          rw [he]
          all_goals (refine rt ?_; refine fin ?_; exact wqA)
      | cons r rs =>
        have hb0 : buildS l = ([], 1) := by
          unfold buildS
          rw [hrun]
          match st, hrw with
          | [], _ => rfl
          | [y], hrw => simp at hrw
          | _ :: _ :: _, _ => rfl
        rw [hb0]
        have hne : ((r :: rs).length : Int) + 1 ≠ 1 := by simp only [List.length_cons]; omega
        generalize r :: rs = rows at hne
        repeat' (first | exact absurd hb Bool.false_ne_true | exact absurd hb.symm Bool.false_ne_true | refine W.seq ?_ | refine W.block ?_ | (refine rg [] ?_; intro K hK) | (refine dr [] ?_; intro K hK) | refine oq ?_ | refine sk ?_ | (refine nk hK ?_; clear hK K) | (refine nd hK ?_; clear hK K) | refine sp ?_ | refine ex ?_ | (refine gs (fun hb => ?_) (fun hb => ?_) <;> replace hb := nb hb <;> try exact noB hb) | (refine cd (fun hb => ?_) (fun hb => ?_) <;> replace hb := nb hb <;> try exact noB hb) | (with_reducible refine Exists.intro _ (And.intro rfl ?_)) | ((with_reducible refine And.intro ?_ ?_); (focus exact sdA)) | fail)
        all_goals (refine rt ?_; refine fin ?_; exact wqA)
/-- One op on a pile, its top first. -/
def stepP (o : OpS) (st : List (List InstS)) : Option (List (List InstS)) :=
  if o.kind = 1 then some ([⟨1, 0, 0, o.not, o.spans⟩] :: st)
  else if o.kind = 2 then some ([] :: st)
  else if o.kind = 3 then (match st with | b :: a :: r => some ((a ++ b) :: r) | _ => none)
  else if o.kind = 4 then (match st with | b :: a :: r => some (altL a b :: r) | _ => none)
  else if o.kind = 5 then (match st with | a :: r => some (starL a :: r) | _ => none)
  else if o.kind = 6 then (match st with | a :: r => some (plusL a :: r) | _ => none)
  else if o.kind = 7 then (match st with | a :: r => some (optL a :: r) | _ => none)
  else none
def runP (l : List OpS) : Option (List (List InstS)) := l.foldl (fun s o => s.bind (stepP o)) (some [])
theorem runP_snoc (l : List OpS) (o : OpS) : runP (l ++ [o]) = (runP l).bind (stepP o) := by unfold runP; rw [List.foldl_append]; rfl
theorem runP_take (l : List OpS) (i : Nat) (h : i < l.length) : runP (l.take (i + 1)) = (runP (l.take i)).bind (stepP (l.getD i OpS.zero)) := by
  rw [List.take_add_one, gdS h OpS.zero]
  exact runP_snoc _ _
/-- Both piles are as high, and alike while there are few. -/
theorem runN_runP (l : List OpS) : match runP l with
    | none => runN l ([], 0) = none ∧ cntN l = none
    | some sp => ∃ st, runN l ([], 0) = some (st, manyN l - 1) ∧ st.length = sp.length ∧ cntN l = some (sp.length : Int) ∧ 0 ≤ manyN l - 1 ∧ (manyN l - 1 ≤ 200 → st = sp) := by
  suffices h : ∀ m : List OpS, match runP m.reverse with
      | none => runN m.reverse ([], 0) = none ∧ cntN m.reverse = none
      | some sp => ∃ st, runN m.reverse ([], 0) = some (st, manyN m.reverse - 1) ∧ st.length = sp.length ∧ cntN m.reverse = some (sp.length : Int) ∧ 0 ≤ manyN m.reverse - 1 ∧ (manyN m.reverse - 1 ≤ 200 → st = sp) by
    have := h l.reverse
    rwa [List.reverse_reverse] at this
  intro m
  induction m with
  | nil => exact ⟨[], rfl, rfl, rfl, by decide, fun _ => rfl⟩
  | cons o m ih =>
    rw [List.reverse_cons]
    generalize hl : m.reverse = l at ih
    have hcn : cntN (l ++ [o]) = cntS (cntN l) o := by unfold cntN; rw [List.foldl_append]; rfl
    have hmn : manyN (l ++ [o]) = manyN l + manyI o.kind := by unfold manyN; rw [List.foldl_append]; rfl
    rw [runP_snoc, runN_snoc, hcn, hmn]
    cases hp : runP l with
    | none =>
      rw [hp] at ih
      simp only at ih
      rw [ih.1, ih.2]
      exact ⟨rfl, rfl⟩
    | some sp =>
      rw [hp] at ih
      obtain ⟨st, h1, h2, h3, h4, h5⟩ := ih
      rw [h1, h3]
      show match stepP o sp with | none => stepN o (st, manyN l - 1) = none ∧ cntS (some (sp.length : Int)) o = none | some sp' => _
      have hbind : (some (st, manyN l - 1)).bind (stepN o) = stepN o (st, manyN l - 1) := rfl
      rw [hbind]
      have hcs : cntS (some (sp.length : Int)) o = if takesI o.kind < 0 ∨ (sp.length : Int) < takesI o.kind then none else some ((sp.length : Int) - takesI o.kind + 1) := rfl
      rw [hcs]
      have lay0 : ∀ (n : Int) (x : List InstS), n ≤ 200 → lay n x = x := fun n x h => if_neg (by omega)
      unfold stepP stepN
      by_cases k1 : o.kind = 1
      · have e1 : manyI o.kind = 1 := by rw [k1]; rfl
        have e2 : takesI o.kind = 0 := by rw [k1]; rfl
        simp only [k1, if_true]
        rw [k1] at e1 e2
        rw [e1, e2]
        refine ⟨lay (manyN l - 1 + 1) [⟨1, 0, 0, o.not, o.spans⟩] :: st, ?_, ?_, ?_, by omega, fun h => ?_⟩
        · rw [show manyN l + 1 - 1 = manyN l - 1 + 1 by omega]
        · simp [h2]
        · rw [if_neg (by omega)]; simp
        · rw [lay0 _ _ (by omega), h5 (by omega)]
      by_cases k2 : o.kind = 2
      · have e1 : manyI o.kind = 0 := by rw [k2]; rfl
        have e2 : takesI o.kind = 0 := by rw [k2]; rfl
        simp only [k2, if_true, show ((2 : Int) = 1) = False by simp, if_false]
        rw [k2] at e1 e2
        rw [e1, e2]
        refine ⟨lay (manyN l - 1) [] :: st, ?_, ?_, ?_, by omega, fun h => ?_⟩
        · rw [show manyN l + 0 - 1 = manyN l - 1 by omega]
        · simp [h2]
        · rw [if_neg (by omega)]; simp
        · rw [lay0 _ _ (by omega), h5 (by omega)]
      by_cases k3 : o.kind = 3
      · have e1 : manyI o.kind = 0 := by rw [k3]; rfl
        have e2 : takesI o.kind = 2 := by rw [k3]; rfl
        simp only [k3, if_true, show ((3 : Int) = 1) = False by simp, show ((3 : Int) = 2) = False by simp, if_false]
        rw [k3] at e1 e2
        rw [e1, e2]
        match sp, st, h2, h5 with
        | [], [], _, _ => exact ⟨rfl, by rw [if_pos (by simp)]⟩
        | [x], [y], _, _ => exact ⟨rfl, by rw [if_pos (by simp)]⟩
        | b :: a :: r, b' :: a' :: r', h2, h5 =>
          refine ⟨lay (manyN l - 1) (a' ++ b') :: r', ?_, ?_, ?_, by omega, fun h => ?_⟩
          · rw [show manyN l + 0 - 1 = manyN l - 1 by omega]
          · simpa using h2
          · rw [if_neg (by simp; omega)]; simp; omega
          · have h6 := h5 (by omega)
            simp only [List.cons.injEq] at h6
            obtain ⟨rfl, rfl, rfl⟩ := h6
            rw [lay0 _ _ (by omega)]
      by_cases k4 : o.kind = 4
      · have e1 : manyI o.kind = 2 := by rw [k4]; rfl
        have e2 : takesI o.kind = 2 := by rw [k4]; rfl
        simp only [k4, if_true, show ((4 : Int) = 1) = False by simp, show ((4 : Int) = 2) = False by simp, show ((4 : Int) = 3) = False by simp, if_false]
        rw [k4] at e1 e2
        rw [e1, e2]
        match sp, st, h2, h5 with
        | [], [], _, _ => exact ⟨rfl, by rw [if_pos (by simp)]⟩
        | [x], [y], _, _ => exact ⟨rfl, by rw [if_pos (by simp)]⟩
        | b :: a :: r, b' :: a' :: r', h2, h5 =>
          refine ⟨lay (manyN l - 1 + 2) (altL a' b') :: r', ?_, ?_, ?_, by omega, fun h => ?_⟩
          · rw [show manyN l + 2 - 1 = manyN l - 1 + 2 by omega]
          · simpa using h2
          · rw [if_neg (by simp; omega)]; simp; omega
          · have h6 := h5 (by omega)
            simp only [List.cons.injEq] at h6
            obtain ⟨rfl, rfl, rfl⟩ := h6
            rw [lay0 _ _ (by omega)]
      by_cases k5 : o.kind = 5
      · have e1 : manyI o.kind = 2 := by rw [k5]; rfl
        have e2 : takesI o.kind = 1 := by rw [k5]; rfl
        simp only [k5, if_true, show ((5 : Int) = 1) = False by simp, show ((5 : Int) = 2) = False by simp, show ((5 : Int) = 3) = False by simp, show ((5 : Int) = 4) = False by simp, if_false]
        rw [k5] at e1 e2
        rw [e1, e2]
        match sp, st, h2, h5 with
        | [], [], _, _ => exact ⟨rfl, by rw [if_pos (by simp)]⟩
        | a :: r, a' :: r', h2, h5 =>
          refine ⟨lay (manyN l - 1 + 2) (starL a') :: r', ?_, ?_, ?_, by omega, fun h => ?_⟩
          · rw [show manyN l + 2 - 1 = manyN l - 1 + 2 by omega]
          · simpa using h2
          · rw [if_neg (by simp; omega)]; simp
          · have h6 := h5 (by omega)
            simp only [List.cons.injEq] at h6
            obtain ⟨rfl, rfl⟩ := h6
            rw [lay0 _ _ (by omega)]
      by_cases k6 : o.kind = 6
      · have e1 : manyI o.kind = 1 := by rw [k6]; rfl
        have e2 : takesI o.kind = 1 := by rw [k6]; rfl
        simp only [k6, if_true, show ((6 : Int) = 1) = False by simp, show ((6 : Int) = 2) = False by simp, show ((6 : Int) = 3) = False by simp, show ((6 : Int) = 4) = False by simp, show ((6 : Int) = 5) = False by simp, if_false]
        rw [k6] at e1 e2
        rw [e1, e2]
        match sp, st, h2, h5 with
        | [], [], _, _ => exact ⟨rfl, by rw [if_pos (by simp)]⟩
        | a :: r, a' :: r', h2, h5 =>
          refine ⟨lay (manyN l - 1 + 1) (plusL a') :: r', ?_, ?_, ?_, by omega, fun h => ?_⟩
          · rw [show manyN l + 1 - 1 = manyN l - 1 + 1 by omega]
          · simpa using h2
          · rw [if_neg (by simp; omega)]; simp
          · have h6 := h5 (by omega)
            simp only [List.cons.injEq] at h6
            obtain ⟨rfl, rfl⟩ := h6
            rw [lay0 _ _ (by omega)]
      by_cases k7 : o.kind = 7
      · have e1 : manyI o.kind = 1 := by rw [k7]; rfl
        have e2 : takesI o.kind = 1 := by rw [k7]; rfl
        simp only [k7, if_true, show ((7 : Int) = 1) = False by simp, show ((7 : Int) = 2) = False by simp, show ((7 : Int) = 3) = False by simp, show ((7 : Int) = 4) = False by simp, show ((7 : Int) = 5) = False by simp, show ((7 : Int) = 6) = False by simp, if_false]
        rw [k7] at e1 e2
        rw [e1, e2]
        match sp, st, h2, h5 with
        | [], [], _, _ => exact ⟨rfl, by rw [if_pos (by simp)]⟩
        | a :: r, a' :: r', h2, h5 =>
          refine ⟨lay (manyN l - 1 + 1) (optL a') :: r', ?_, ?_, ?_, by omega, fun h => ?_⟩
          · rw [show manyN l + 1 - 1 = manyN l - 1 + 1 by omega]
          · simpa using h2
          · rw [if_neg (by simp; omega)]; simp
          · have h6 := h5 (by omega)
            simp only [List.cons.injEq] at h6
            obtain ⟨rfl, rfl⟩ := h6
            rw [lay0 _ _ (by omega)]
      have e2 : takesI o.kind = -1 := by unfold takesI; rw [if_neg (by omega), if_neg (by omega), if_neg (by omega)]
      simp only [if_neg k1, if_neg k2, if_neg k3, if_neg k4, if_neg k5, if_neg k6, if_neg k7]
      simp [e2]
/-- What the document builds. -/
theorem buildS_eq (l : List OpS) : (cntN l ≠ some 1 ∧ buildS l = ([], 1)) ∨ (cntN l = some 1 ∧ 200 < manyN l ∧ buildS l = ([], 3)) ∨ (cntN l = some 1 ∧ manyN l ≤ 200 ∧ ∃ x, runP l = some [x] ∧ buildS l = (x ++ [doneI], 0)) := by
  have h := runN_runP l
  cases hp : runP l with
  | none =>
    rw [hp] at h
    refine .inl ⟨by rw [h.2]; simp, ?_⟩
    unfold buildS
    rw [h.1]
  | some sp =>
    rw [hp] at h
    obtain ⟨st, h1, h2, h3, h4, h5⟩ := h
    match sp, st, h2, h3, h5, h1 with
    | [], [], _, h3, _, h1 =>
      refine .inl ⟨by rw [h3]; simp, ?_⟩
      unfold buildS
      rw [h1]
    | [x], [y], _, h3, h5, h1 =>
      by_cases hb : 200 < manyN l
      · refine .inr (.inl ⟨h3, hb, ?_⟩)
        unfold buildS
        rw [h1]
        exact if_pos (by omega)
      · refine .inr (.inr ⟨h3, by omega, x, rfl, ?_⟩)
        have h6 := h5 (by omega)
        simp only [List.cons.injEq, and_true] at h6
        subst h6
        unfold buildS
        rw [h1]
        exact if_neg (by omega)
    | a :: b :: r, a' :: b' :: r', h2, h3, _, h1 =>
      refine .inl ⟨by rw [h3]; simp; omega, ?_⟩
      unfold buildS
      rw [h1]
/-- Pieces are no longer than twice as long as the ops. -/
theorem runP_total (l : List OpS) : ∀ sp, runP l = some sp → total sp ≤ 2 * l.length := by
  suffices h : ∀ m : List OpS, ∀ sp, runP m.reverse = some sp → total sp ≤ 2 * m.length by
    have := h l.reverse
    rwa [List.reverse_reverse, List.length_reverse] at this
  intro m
  induction m with
  | nil => intro sp h; cases h; simp [total]
  | cons o m ih =>
    intro sp h
    rw [List.reverse_cons, runP_snoc] at h
    cases hp : runP m.reverse with
    | none => rw [hp] at h; cases h
    | some s =>
      rw [hp] at h
      have hs := ih s hp
      have h : stepP o s = some sp := h
      unfold stepP at h
      simp only [List.length_cons]
      split at h
      · injection h with h; subst h; simp [total_cons]; omega
      split at h
      · injection h with h; subst h; simp [total_cons]; omega
      split at h
      · split at h
        · injection h with h; subst h; simp [total_cons] at hs ⊢; omega
        · cases h
      split at h
      · split at h
        · injection h with h; subst h; simp [total_cons, altL] at hs ⊢; omega
        · cases h
      split at h
      · split at h
        · injection h with h; subst h; simp [total_cons, starL] at hs ⊢; omega
        · cases h
      split at h
      · split at h
        · injection h with h; subst h; simp [total_cons, plusL] at hs ⊢; omega
        · cases h
      split at h
      · split at h
        · injection h with h; subst h; simp [total_cons, optL] at hs ⊢; omega
        · cases h
      · cases h
end Go.Proofs.Ytgebfcdcpmmgnaa.Vs
