/- instructions: the pile of pieces; instructions: pieces that are missing; instructions: pieces that keep their room. -/
import Derived.Test.YtgebfcdcpmmgnaaVnC
set_option linter.unusedVariables false
set_option linter.unusedSimpArgs false
namespace Go.Proofs.Ytgebfcdcpmmgnaa.Vs
open Go.RowKit
set_option maxRecDepth 100000
abbrev rowsV (l : List (List InstS)) : List V := (l.map instsD).map .d
theorem rowsV_snoc (l : List (List InstS)) (x : List InstS) : rowsV (l ++ [x]) = rowsV l ++ [.d (instsD x)] := by unfold rowsV; rw [List.map_append, List.map_append]; rfl
theorem rowsV_len (l : List (List InstS)) : (rowsV l).length = l.length := by simp [rowsV]
@[go_sem ↓] theorem rows_get (l : List (List InstS)) (x : List InstS) (d : V) : (((l ++ [x]).map instsD).map V.d).getD l.length d = .d (instsD x) := by
  show (rowsV (l ++ [x])).getD _ _ = _
  rw [rowsV_snoc, List.getD_eq_getElem?_getD, List.getElem?_append_right (by rw [rowsV_len]; omega), rowsV_len]
  simp
@[go_sem ↓] theorem rows_take (l : List (List InstS)) (x : List InstS) : (((l ++ [x]).map instsD).map V.d).take l.length = (l.map instsD).map V.d := by
  show (rowsV (l ++ [x])).take _ = rowsV l
  rw [rowsV_snoc, List.take_left' (rowsV_len l)]
/-- A maker: pieces, how many instructions, is it bad? -/
abbrev mkr (k : Nat) (rows : List (List InstS)) (many : Int) (bad : Bool) : List Ob := [.cells 141 [.hd 1 k rows.length, i64 many, bool bad], .grw 69 1 k rows.length (rowsV rows)]
theorem snocL {α : Type} (l : List α) (x : α) : (l ++ [x]).length = l.length + 1 := by simp
set_option maxHeartbeats 1000000 in
theorem mput_fn (k : Nat) (rows : List (List InstS)) (many : Int) (bad : Bool) (l : List InstS) (hr : rows.length ≤ 100000) : Fn Try.prog 125 [.ptr 0 0, .d (instsD l)] (mkr k rows many bad) (.tup []) (mkr (k + 1) (rows ++ [if 200 < many then [] else l]) many bad) := by
  by_cases h : 200 < many
  · rw [if_pos h]
    refine en Try.func125 (hfr := by (simp only [Try.ntmps125, go_sem, Nat.reduceSub, Nat.reduceAdd]; rfl)) ?_
    repeat' (first | exact absurd hb Bool.false_ne_true | exact absurd hb.symm Bool.false_ne_true | refine W.seq ?_ | refine W.block ?_ | (refine rg [] ?_; intro K hK) | (refine dr [] ?_; intro K hK) | refine oq ?_ | refine sk ?_ | (refine nk hK ?_; clear hK K) | (refine nd hK ?_; clear hK K) | refine sp ?_ | refine ex ?_ | (refine gs (fun hb => ?_) (fun hb => ?_) <;> replace hb := nb hb <;> try exact noB hb) | (refine cd (fun hb => ?_) (fun hb => ?_) <;> replace hb := nb hb <;> try exact noB hb) | (with_reducible refine Exists.intro _ (And.intro rfl ?_)) | ((with_reducible refine And.intro ?_ ?_); (focus exact sdA)) | fail)
    rw [show rowsV rows ++ [V.d (D.sl 5 [])] = rowsV (rows ++ [[]]) from (rowsV_snoc rows []).symm, ← snocL rows []]
    refine fin ?_
    exact .rfl
  · rw [if_neg h]
    refine en Try.func125 (hfr := by (simp only [Try.ntmps125, go_sem, Nat.reduceSub, Nat.reduceAdd]; rfl)) ?_
    repeat' (first | exact absurd hb Bool.false_ne_true | exact absurd hb.symm Bool.false_ne_true | refine W.seq ?_ | refine W.block ?_ | (refine rg [] ?_; intro K hK) | (refine dr [] ?_; intro K hK) | refine oq ?_ | refine sk ?_ | (refine nk hK ?_; clear hK K) | (refine nd hK ?_; clear hK K) | refine sp ?_ | refine ex ?_ | (refine gs (fun hb => ?_) (fun hb => ?_) <;> replace hb := nb hb <;> try exact noB hb) | (refine cd (fun hb => ?_) (fun hb => ?_) <;> replace hb := nb hb <;> try exact noB hb) | (with_reducible refine Exists.intro _ (And.intro rfl ?_)) | ((with_reducible refine And.intro ?_ ?_); (focus exact sdA)) | fail)
    rw [show rowsV rows ++ [V.d (instsD l)] = rowsV (rows ++ [l]) from (rowsV_snoc rows l).symm, ← snocL rows l]
    refine fin ?_
    exact .rfl
theorem getL (rows : List (List InstS)) (x : List InstS) (d : D) : ((rows ++ [x]).map instsD).getD rows.length d = instsD x := by
  rw [List.map_append, List.getD_eq_getElem?_getD, List.getElem?_append_right (by rw [List.length_map]; omega), List.length_map]
  simp
set_option maxHeartbeats 1000000 in
theorem mtake_ok (k : Nat) (rows : List (List InstS)) (x : List InstS) (many : Int) (bad : Bool) (hr : rows.length ≤ 100000) : Fn Try.prog 126 [.ptr 0 0] (mkr k (rows ++ [x]) many bad) (.d (instsD x)) (mkr (k + 1) rows many bad) := by
  have h1 : ((rows.length + 1 : Nat) - 1 : Int).toNat = rows.length := by omega
  have h2 : (rows ++ [x]).take rows.length = rows := List.take_left' rfl
  rw [show mkr k (rows ++ [x]) many bad = [.cells 141 [.hd 1 k (rows.length + 1), i64 many, bool bad], .grw 69 1 k (rows.length + 1) (rowsV (rows ++ [x]))] by simp only [mkr, snocL]]
  refine en Try.func126 (hfr := by (simp only [Try.ntmps126, go_sem, Nat.reduceSub, Nat.reduceAdd]; rfl)) ?_
  repeat' (first | exact absurd hb Bool.false_ne_true | exact absurd hb.symm Bool.false_ne_true | refine W.seq ?_ | refine W.block ?_ | (refine rg [] ?_; intro K hK) | (refine dr [] ?_; intro K hK) | refine oq ?_ | refine sk ?_ | (refine nk hK ?_; clear hK K) | (refine nd hK ?_; clear hK K) | refine sp ?_ | refine ex ?_ | (refine gs (fun hb => ?_) (fun hb => ?_) <;> replace hb := nb hb <;> try exact noB hb) | (refine cd (fun hb => ?_) (fun hb => ?_) <;> replace hb := nb hb <;> try exact noB hb) | (with_reducible refine Exists.intro _ (And.intro rfl ?_)) | ((with_reducible refine And.intro ?_ ?_); (focus exact sdA)) | fail)
  rw [h1, getL, h2]
  all_goals (refine rt ?_; refine fin ?_; exact wqA)
set_option maxHeartbeats 1000000 in
theorem mtake_no (k : Nat) (many : Int) (bad : Bool) : Fn Try.prog 126 [.ptr 0 0] (mkr k [] many bad) (.d (instsD [])) (mkr k [] many true) := by
  refine en Try.func126 (hfr := by (simp only [Try.ntmps126, go_sem, Nat.reduceSub, Nat.reduceAdd]; rfl)) ?_
  repeat' (first | exact absurd hb Bool.false_ne_true | exact absurd hb.symm Bool.false_ne_true | refine W.seq ?_ | refine W.block ?_ | (refine rg [] ?_; intro K hK) | (refine dr [] ?_; intro K hK) | refine oq ?_ | refine sk ?_ | (refine nk hK ?_; clear hK K) | (refine nd hK ?_; clear hK K) | refine sp ?_ | refine ex ?_ | (refine gs (fun hb => ?_) (fun hb => ?_) <;> replace hb := nb hb <;> try exact noB hb) | (refine cd (fun hb => ?_) (fun hb => ?_) <;> replace hb := nb hb <;> try exact noB hb) | (with_reducible refine Exists.intro _ (And.intro rfl ?_)) | ((with_reducible refine And.intro ?_ ?_); (focus exact sdA)) | fail)
  all_goals (refine rt ?_; refine fin ?_; exact wqA)
abbrev OpS.cells (o : OpS) : List V := [i64 o.kind, bool o.not, .d (spansD o.spans)]
abbrev OpS.v (o : OpS) : V := .agg o.cells
/-- What is laid on the pile. -/
def lay (many : Int) (l : List InstS) : List InstS := if 200 < many then [] else l
set_option maxHeartbeats 1000000 in
theorem mset_fn (k : Nat) (rows : List (List InstS)) (many : Int) (bad : Bool) (o : OpS) (hr : rows.length ≤ 100000) (hm : 0 ≤ many ∧ many ≤ 100000) (hs : o.spans.length ≤ 10000) : Fn Try.prog 102 [.ptr 0 0, o.v] (mkr k rows many bad) (.tup []) (mkr (k + 1) (rows ++ [lay (many + 1) [⟨1, 0, 0, o.not, o.spans⟩]]) (many + 1) bad) := by
  have c := mput_fn k rows (many + 1) bad [⟨1, 0, 0, o.not, o.spans⟩] hr
  refine en Try.func102 (hfr := by (simp only [Try.ntmps102, go_sem, Nat.reduceSub, Nat.reduceAdd]; rfl)) ?_
  repeat' (first | exact absurd hb Bool.false_ne_true | exact absurd hb.symm Bool.false_ne_true | refine W.seq ?_ | refine W.block ?_ | (refine rg [] ?_; intro K hK) | (refine dr [] ?_; intro K hK) | refine cle [0, 1] 0 (c) ?_ | refine oq ?_ | refine sk ?_ | (refine nk hK ?_; clear hK K) | (refine nd hK ?_; clear hK K) | refine sp ?_ | refine ex ?_ | (refine gs (fun hb => ?_) (fun hb => ?_) <;> replace hb := nb hb <;> try exact noB hb) | (refine cd (fun hb => ?_) (fun hb => ?_) <;> replace hb := nb hb <;> try exact noB hb) | (with_reducible refine Exists.intro _ (And.intro rfl ?_)) | ((with_reducible refine And.intro ?_ ?_); (focus exact sdA)) | fail)
  rw [← snocL rows (lay (many + 1) [⟨1, 0, 0, o.not, o.spans⟩])]
  refine fin ?_
  exact .rfl
theorem mnone_fn (k : Nat) (rows : List (List InstS)) (many : Int) (bad : Bool) (o : OpS) (hr : rows.length ≤ 100000) : Fn Try.prog 103 [.ptr 0 0, o.v] (mkr k rows many bad) (.tup []) (mkr (k + 1) (rows ++ [lay many []]) many bad) := by
  have c := mput_fn k rows many bad [] hr
  refine en Try.func103 (hfr := by (simp only [Try.ntmps103, go_sem, Nat.reduceSub, Nat.reduceAdd]; rfl)) ?_
  repeat' (first | exact absurd hb Bool.false_ne_true | exact absurd hb.symm Bool.false_ne_true | refine W.seq ?_ | refine W.block ?_ | (refine rg [] ?_; intro K hK) | (refine dr [] ?_; intro K hK) | refine cle [0, 1] 0 (c) ?_ | refine oq ?_ | refine sk ?_ | (refine nk hK ?_; clear hK K) | (refine nd hK ?_; clear hK K) | refine sp ?_ | refine ex ?_ | (refine gs (fun hb => ?_) (fun hb => ?_) <;> replace hb := nb hb <;> try exact noB hb) | (refine cd (fun hb => ?_) (fun hb => ?_) <;> replace hb := nb hb <;> try exact noB hb) | (with_reducible refine Exists.intro _ (And.intro rfl ?_)) | ((with_reducible refine And.intro ?_ ?_); (focus exact sdA)) | fail)
  rw [← snocL rows (lay many [])]
  refine fin ?_
  exact .rfl
set_option maxHeartbeats 1000000 in
theorem mcat_fn (k : Nat) (rows : List (List InstS)) (a b : List InstS) (many : Int) (bad : Bool) (o : OpS) (hr : rows.length ≤ 10000) (ha : a.length ≤ 10000) (hb : b.length ≤ 10000) : Fn Try.prog 104 [.ptr 0 0, o.v] (mkr k (rows ++ [a] ++ [b]) many bad) (.tup []) (mkr (k + 2 + 1) (rows ++ [lay many (a ++ b)]) many bad) := by
  have c1 := mtake_ok k (rows ++ [a]) b many bad (by rw [snocL]; omega)
  have c2 := mtake_ok (k + 1) rows a many bad (by omega)
  have c3 := mput_fn (k + 1 + 1) rows many bad (a ++ b) (by omega)
  refine en Try.func104 (hfr := by (simp only [Try.ntmps104, go_sem, Nat.reduceSub, Nat.reduceAdd]; rfl)) ?_
  repeat' (first | exact absurd hb Bool.false_ne_true | exact absurd hb.symm Bool.false_ne_true | refine W.seq ?_ | refine W.block ?_ | (refine rg [] ?_; intro K hK) | (refine dr [] ?_; intro K hK) | refine cle [0, 1] 0 (c1) ?_ | refine cle [0, 1] 0 (c2) ?_ | refine cle [0, 1] 0 (c3) ?_ | refine oq ?_ | refine sk ?_ | (refine nk hK ?_; clear hK K) | (refine nd hK ?_; clear hK K) | refine sp ?_ | refine ex ?_ | (refine gs (fun hb => ?_) (fun hb => ?_) <;> replace hb := nb hb <;> try exact noB hb) | (refine cd (fun hb => ?_) (fun hb => ?_) <;> replace hb := nb hb <;> try exact noB hb) | (with_reducible refine Exists.intro _ (And.intro rfl ?_)) | ((with_reducible refine And.intro ?_ ?_); (focus exact sdA)) | fail)
  rw [← snocL rows (lay many (a ++ b))]
  refine fin ?_
  exact .rfl
theorem mput_d {ds : List D} (k : Nat) (rows : List (List InstS)) (many : Int) (bad : Bool) (l : List InstS) (hr : rows.length ≤ 100000) (h : ds = l.map instD) : Fn Try.prog 125 [.ptr 0 0, .d (.sl 5 ds)] (mkr k rows many bad) (.tup []) (mkr (k + 1) (rows ++ [lay many l]) many bad) := by
  subst h
  exact mput_fn k rows many bad l hr
def altL (a b : List InstS) : List InstS := ⟨2, 1, ((a.length + 2 : Nat) : Int), false, []⟩ :: (a ++ (⟨3, ((b.length + 1 : Nat) : Int), 0, false, []⟩ :: b))
def starL (a : List InstS) : List InstS := ⟨2, 1, ((a.length + 2 : Nat) : Int), false, []⟩ :: (a ++ [⟨3, 0 - (a.length : Int) - 1, 0, false, []⟩])
def plusL (a : List InstS) : List InstS := a ++ [⟨2, 0 - (a.length : Int), 1, false, []⟩]
def optL (a : List InstS) : List InstS := ⟨2, 1, ((a.length + 1 : Nat) : Int), false, []⟩ :: a
set_option maxHeartbeats 1000000 in
theorem malt_fn (k : Nat) (rows : List (List InstS)) (a b : List InstS) (many : Int) (bad : Bool) (o : OpS) (hr : rows.length ≤ 10000) (ha : a.length ≤ 10000) (hb : b.length ≤ 10000) (hm : 0 ≤ many ∧ many ≤ 100000) : Fn Try.prog 105 [.ptr 0 0, o.v] (mkr k (rows ++ [a] ++ [b]) many bad) (.tup []) (mkr (k + 2 + 1) (rows ++ [lay (many + 2) (altL a b)]) (many + 2) bad) := by
  have c1 := mtake_ok k (rows ++ [a]) b many bad (by rw [snocL]; omega)
  have c2 := mtake_ok (k + 1) rows a many bad (by omega)
  have c3 := mput_d (ds := D.agg [.int .i64 2, .int .i64 1, .int .i64 ((a.length + 2 : Nat) : Int), .bool false, .sl 2 []] :: (a.map instD ++ [D.agg [.int .i64 3, .int .i64 ((b.length + 1 : Nat) : Int), .int .i64 0, .bool false, .sl 2 []]] ++ b.map instD)) (k + 1 + 1) rows (many + 2) bad (altL a b) (by omega) (by unfold altL; rw [List.map_cons, List.map_append, List.append_assoc]; rfl)
  refine en Try.func105 (hfr := by (simp only [Try.ntmps105, go_sem, Nat.reduceSub, Nat.reduceAdd]; rfl)) ?_
  repeat' (first | exact absurd hb Bool.false_ne_true | exact absurd hb.symm Bool.false_ne_true | refine W.seq ?_ | refine W.block ?_ | (refine rg [] ?_; intro K hK) | (refine dr [] ?_; intro K hK) | refine cle [0, 1] 0 (c1) ?_ | refine cle [0, 1] 0 (c2) ?_ | refine cle [0, 1] 0 (c3) ?_ | refine oq ?_ | refine sk ?_ | (refine nk hK ?_; clear hK K) | (refine nd hK ?_; clear hK K) | refine sp ?_ | refine ex ?_ | (refine gs (fun hb => ?_) (fun hb => ?_) <;> replace hb := nb hb <;> try exact noB hb) | (refine cd (fun hb => ?_) (fun hb => ?_) <;> replace hb := nb hb <;> try exact noB hb) | (with_reducible refine Exists.intro _ (And.intro rfl ?_)) | ((with_reducible refine And.intro ?_ ?_); (focus exact sdA)) | fail)
  rw [← snocL rows (lay (many + 2) (altL a b))]
  refine fin ?_
  exact .rfl
set_option maxHeartbeats 1000000 in
theorem mstar_fn (k : Nat) (rows : List (List InstS)) (a : List InstS) (many : Int) (bad : Bool) (o : OpS) (hr : rows.length ≤ 10000) (ha : a.length ≤ 10000) (hm : 0 ≤ many ∧ many ≤ 100000) : Fn Try.prog 106 [.ptr 0 0, o.v] (mkr k (rows ++ [a]) many bad) (.tup []) (mkr (k + 1 + 1) (rows ++ [lay (many + 2) (starL a)]) (many + 2) bad) := by
  have c2 := mtake_ok k rows a many bad (by omega)
  have c3 := mput_d (ds := D.agg [.int .i64 2, .int .i64 1, .int .i64 ((a.length + 2 : Nat) : Int), .bool false, .sl 2 []] :: (a.map instD ++ [D.agg [.int .i64 3, .int .i64 (0 - (a.length : Int) - 1), .int .i64 0, .bool false, .sl 2 []]])) (k + 1) rows (many + 2) bad (starL a) (by omega) (by unfold starL; rw [List.map_cons, List.map_append]; rfl)
  refine en Try.func106 (hfr := by (simp only [Try.ntmps106, go_sem, Nat.reduceSub, Nat.reduceAdd]; rfl)) ?_
  repeat' (first | exact absurd hb Bool.false_ne_true | exact absurd hb.symm Bool.false_ne_true | refine W.seq ?_ | refine W.block ?_ | (refine rg [] ?_; intro K hK) | (refine dr [] ?_; intro K hK) | refine cle [0, 1] 0 (c2) ?_ | refine cle [0, 1] 0 (c3) ?_ | refine oq ?_ | refine sk ?_ | (refine nk hK ?_; clear hK K) | (refine nd hK ?_; clear hK K) | refine sp ?_ | refine ex ?_ | (refine gs (fun hb => ?_) (fun hb => ?_) <;> replace hb := nb hb <;> try exact noB hb) | (refine cd (fun hb => ?_) (fun hb => ?_) <;> replace hb := nb hb <;> try exact noB hb) | (with_reducible refine Exists.intro _ (And.intro rfl ?_)) | ((with_reducible refine And.intro ?_ ?_); (focus exact sdA)) | fail)
  rw [← snocL rows (lay (many + 2) (starL a))]
  refine fin ?_
  exact .rfl
set_option maxHeartbeats 1000000 in
theorem mplus_fn (k : Nat) (rows : List (List InstS)) (a : List InstS) (many : Int) (bad : Bool) (o : OpS) (hr : rows.length ≤ 10000) (ha : a.length ≤ 10000) (hm : 0 ≤ many ∧ many ≤ 100000) : Fn Try.prog 107 [.ptr 0 0, o.v] (mkr k (rows ++ [a]) many bad) (.tup []) (mkr (k + 1 + 1) (rows ++ [lay (many + 1) (plusL a)]) (many + 1) bad) := by
  have c2 := mtake_ok k rows a many bad (by omega)
  have c3 := mput_d (ds := a.map instD ++ [D.agg [.int .i64 2, .int .i64 (0 - (a.length : Int)), .int .i64 1, .bool false, .sl 2 []]]) (k + 1) rows (many + 1) bad (plusL a) (by omega) (by unfold plusL; rw [List.map_append]; rfl)
  refine en Try.func107 (hfr := by (simp only [Try.ntmps107, go_sem, Nat.reduceSub, Nat.reduceAdd]; rfl)) ?_
  repeat' (first | exact absurd hb Bool.false_ne_true | exact absurd hb.symm Bool.false_ne_true | refine W.seq ?_ | refine W.block ?_ | (refine rg [] ?_; intro K hK) | (refine dr [] ?_; intro K hK) | refine cle [0, 1] 0 (c2) ?_ | refine cle [0, 1] 0 (c3) ?_ | refine oq ?_ | refine sk ?_ | (refine nk hK ?_; clear hK K) | (refine nd hK ?_; clear hK K) | refine sp ?_ | refine ex ?_ | (refine gs (fun hb => ?_) (fun hb => ?_) <;> replace hb := nb hb <;> try exact noB hb) | (refine cd (fun hb => ?_) (fun hb => ?_) <;> replace hb := nb hb <;> try exact noB hb) | (with_reducible refine Exists.intro _ (And.intro rfl ?_)) | ((with_reducible refine And.intro ?_ ?_); (focus exact sdA)) | fail)
  rw [← snocL rows (lay (many + 1) (plusL a))]
  refine fin ?_
  exact .rfl
set_option maxHeartbeats 1000000 in
theorem mopt_fn (k : Nat) (rows : List (List InstS)) (a : List InstS) (many : Int) (bad : Bool) (o : OpS) (hr : rows.length ≤ 10000) (ha : a.length ≤ 10000) (hm : 0 ≤ many ∧ many ≤ 100000) : Fn Try.prog 108 [.ptr 0 0, o.v] (mkr k (rows ++ [a]) many bad) (.tup []) (mkr (k + 1 + 1) (rows ++ [lay (many + 1) (optL a)]) (many + 1) bad) := by
  have c2 := mtake_ok k rows a many bad (by omega)
  have c3 := mput_d (ds := D.agg [.int .i64 2, .int .i64 1, .int .i64 ((a.length + 1 : Nat) : Int), .bool false, .sl 2 []] :: a.map instD) (k + 1) rows (many + 1) bad (optL a) (by omega) (by rfl)
  refine en Try.func108 (hfr := by (simp only [Try.ntmps108, go_sem, Nat.reduceSub, Nat.reduceAdd]; rfl)) ?_
  repeat' (first | exact absurd hb Bool.false_ne_true | exact absurd hb.symm Bool.false_ne_true | refine W.seq ?_ | refine W.block ?_ | (refine rg [] ?_; intro K hK) | (refine dr [] ?_; intro K hK) | refine cle [0, 1] 0 (c2) ?_ | refine cle [0, 1] 0 (c3) ?_ | refine oq ?_ | refine sk ?_ | (refine nk hK ?_; clear hK K) | (refine nd hK ?_; clear hK K) | refine sp ?_ | refine ex ?_ | (refine gs (fun hb => ?_) (fun hb => ?_) <;> replace hb := nb hb <;> try exact noB hb) | (refine cd (fun hb => ?_) (fun hb => ?_) <;> replace hb := nb hb <;> try exact noB hb) | (with_reducible refine Exists.intro _ (And.intro rfl ?_)) | ((with_reducible refine And.intro ?_ ?_); (focus exact sdA)) | fail)
  rw [← snocL rows (lay (many + 1) (optL a))]
  refine fin ?_
  exact .rfl
set_option maxHeartbeats 1000000 in
theorem mcat_0 (k : Nat) (many : Int) (bad : Bool) (o : OpS) (hm : 0 ≤ many ∧ many ≤ 100000) : Fn Try.prog 104 [.ptr 0 0, o.v] (mkr k [] many bad) (.tup []) (mkr (k + 1) [lay many ([])] many true) := by
  have c1 := mtake_no k many bad
  have c2 := mtake_no k many true
  have c3 := mput_d (ds := []) k [] many true [] (by simp) rfl
  refine en Try.func104 (hfr := by (simp only [Try.ntmps104, go_sem, Nat.reduceSub, Nat.reduceAdd]; rfl)) ?_
  repeat' (first | exact absurd hb Bool.false_ne_true | exact absurd hb.symm Bool.false_ne_true | refine W.seq ?_ | refine W.block ?_ | (refine rg [] ?_; intro K hK) | (refine dr [] ?_; intro K hK) | refine cle [0, 1] 0 (c1) ?_ | refine cle [0, 1] 0 (c2) ?_ | refine cle [0, 1] 0 (c3) ?_ | refine oq ?_ | refine sk ?_ | (refine nk hK ?_; clear hK K) | (refine nd hK ?_; clear hK K) | refine sp ?_ | refine ex ?_ | (refine gs (fun hb => ?_) (fun hb => ?_) <;> replace hb := nb hb <;> try exact noB hb) | (refine cd (fun hb => ?_) (fun hb => ?_) <;> replace hb := nb hb <;> try exact noB hb) | (with_reducible refine Exists.intro _ (And.intro rfl ?_)) | ((with_reducible refine And.intro ?_ ?_); (focus exact sdA)) | fail)
  refine fin ?_
  exact .rfl
set_option maxHeartbeats 1000000 in
theorem mcat_1 (k : Nat) (x : List InstS) (hx : x.length ≤ 10000) (many : Int) (bad : Bool) (o : OpS) (hm : 0 ≤ many ∧ many ≤ 100000) : Fn Try.prog 104 [.ptr 0 0, o.v] (mkr k [x] many bad) (.tup []) (mkr (k + 1 + 1) [lay many (x)] many true) := by
  have c1 : Fn Try.prog 126 [.ptr 0 0] (mkr k [x] many bad) (.d (instsD x)) (mkr (k + 1) [] many bad) := mtake_ok k [] x many bad (by simp)
  have c2 := mtake_no (k + 1) many bad
  have c3 := mput_d (ds := x.map instD) (k + 1) [] many true x (by simp) rfl
  refine en Try.func104 (hfr := by (simp only [Try.ntmps104, go_sem, Nat.reduceSub, Nat.reduceAdd]; rfl)) ?_
  repeat' (first | exact absurd hb Bool.false_ne_true | exact absurd hb.symm Bool.false_ne_true | refine W.seq ?_ | refine W.block ?_ | (refine rg [] ?_; intro K hK) | (refine dr [] ?_; intro K hK) | refine cle [0, 1] 0 (c1) ?_ | refine cle [0, 1] 0 (c2) ?_ | refine cle [0, 1] 0 (c3) ?_ | refine oq ?_ | refine sk ?_ | (refine nk hK ?_; clear hK K) | (refine nd hK ?_; clear hK K) | refine sp ?_ | refine ex ?_ | (refine gs (fun hb => ?_) (fun hb => ?_) <;> replace hb := nb hb <;> try exact noB hb) | (refine cd (fun hb => ?_) (fun hb => ?_) <;> replace hb := nb hb <;> try exact noB hb) | (with_reducible refine Exists.intro _ (And.intro rfl ?_)) | ((with_reducible refine And.intro ?_ ?_); (focus exact sdA)) | fail)
  refine fin ?_
  exact .rfl
set_option maxHeartbeats 1000000 in
theorem malt_0 (k : Nat) (many : Int) (bad : Bool) (o : OpS) (hm : 0 ≤ many ∧ many ≤ 100000) : Fn Try.prog 105 [.ptr 0 0, o.v] (mkr k [] many bad) (.tup []) (mkr (k + 1) [lay (many + 2) (altL [] [])] (many + 2) true) := by
  have c1 := mtake_no k many bad
  have c2 := mtake_no k many true
  have c3 := mput_d (ds := [D.agg [.int .i64 2, .int .i64 1, .int .i64 2, .bool false, .sl 2 []], D.agg [.int .i64 3, .int .i64 1, .int .i64 0, .bool false, .sl 2 []]]) k [] (many + 2) true (altL [] []) (by simp) rfl
  refine en Try.func105 (hfr := by (simp only [Try.ntmps105, go_sem, Nat.reduceSub, Nat.reduceAdd]; rfl)) ?_
  repeat' (first | exact absurd hb Bool.false_ne_true | exact absurd hb.symm Bool.false_ne_true | refine W.seq ?_ | refine W.block ?_ | (refine rg [] ?_; intro K hK) | (refine dr [] ?_; intro K hK) | refine cle [0, 1] 0 (c1) ?_ | refine cle [0, 1] 0 (c2) ?_ | refine cle [0, 1] 0 (c3) ?_ | refine oq ?_ | refine sk ?_ | (refine nk hK ?_; clear hK K) | (refine nd hK ?_; clear hK K) | refine sp ?_ | refine ex ?_ | (refine gs (fun hb => ?_) (fun hb => ?_) <;> replace hb := nb hb <;> try exact noB hb) | (refine cd (fun hb => ?_) (fun hb => ?_) <;> replace hb := nb hb <;> try exact noB hb) | (with_reducible refine Exists.intro _ (And.intro rfl ?_)) | ((with_reducible refine And.intro ?_ ?_); (focus exact sdA)) | fail)
  refine fin ?_
  exact .rfl
set_option maxHeartbeats 1000000 in
theorem malt_1 (k : Nat) (x : List InstS) (hx : x.length ≤ 10000) (many : Int) (bad : Bool) (o : OpS) (hm : 0 ≤ many ∧ many ≤ 100000) : Fn Try.prog 105 [.ptr 0 0, o.v] (mkr k [x] many bad) (.tup []) (mkr (k + 1 + 1) [lay (many + 2) (altL [] x)] (many + 2) true) := by
  have c1 : Fn Try.prog 126 [.ptr 0 0] (mkr k [x] many bad) (.d (instsD x)) (mkr (k + 1) [] many bad) := mtake_ok k [] x many bad (by simp)
  have c2 := mtake_no (k + 1) many bad
  have c3 := mput_d (ds := D.agg [.int .i64 2, .int .i64 1, .int .i64 2, .bool false, .sl 2 []] :: D.agg [.int .i64 3, .int .i64 ((x.length + 1 : Nat) : Int), .int .i64 0, .bool false, .sl 2 []] :: x.map instD) (k + 1) [] (many + 2) true (altL [] x) (by simp) rfl
  refine en Try.func105 (hfr := by (simp only [Try.ntmps105, go_sem, Nat.reduceSub, Nat.reduceAdd]; rfl)) ?_
  repeat' (first | exact absurd hb Bool.false_ne_true | exact absurd hb.symm Bool.false_ne_true | refine W.seq ?_ | refine W.block ?_ | (refine rg [] ?_; intro K hK) | (refine dr [] ?_; intro K hK) | refine cle [0, 1] 0 (c1) ?_ | refine cle [0, 1] 0 (c2) ?_ | refine cle [0, 1] 0 (c3) ?_ | refine oq ?_ | refine sk ?_ | (refine nk hK ?_; clear hK K) | (refine nd hK ?_; clear hK K) | refine sp ?_ | refine ex ?_ | (refine gs (fun hb => ?_) (fun hb => ?_) <;> replace hb := nb hb <;> try exact noB hb) | (refine cd (fun hb => ?_) (fun hb => ?_) <;> replace hb := nb hb <;> try exact noB hb) | (with_reducible refine Exists.intro _ (And.intro rfl ?_)) | ((with_reducible refine And.intro ?_ ?_); (focus exact sdA)) | fail)
  refine fin ?_
  exact .rfl
set_option maxHeartbeats 1000000 in
theorem mstar_0 (k : Nat) (many : Int) (bad : Bool) (o : OpS) (hm : 0 ≤ many ∧ many ≤ 100000) : Fn Try.prog 106 [.ptr 0 0, o.v] (mkr k [] many bad) (.tup []) (mkr (k + 1) [lay (many + 2) (starL [])] (many + 2) true) := by
  have c1 := mtake_no k many bad
  have c3 := mput_d (ds := [D.agg [.int .i64 2, .int .i64 1, .int .i64 2, .bool false, .sl 2 []], D.agg [.int .i64 3, .int .i64 (-1), .int .i64 0, .bool false, .sl 2 []]]) k [] (many + 2) true (starL []) (by simp) rfl
  refine en Try.func106 (hfr := by (simp only [Try.ntmps106, go_sem, Nat.reduceSub, Nat.reduceAdd]; rfl)) ?_
  repeat' (first | exact absurd hb Bool.false_ne_true | exact absurd hb.symm Bool.false_ne_true | refine W.seq ?_ | refine W.block ?_ | (refine rg [] ?_; intro K hK) | (refine dr [] ?_; intro K hK) | refine cle [0, 1] 0 (c1) ?_ | refine cle [0, 1] 0 (c3) ?_ | refine oq ?_ | refine sk ?_ | (refine nk hK ?_; clear hK K) | (refine nd hK ?_; clear hK K) | refine sp ?_ | refine ex ?_ | (refine gs (fun hb => ?_) (fun hb => ?_) <;> replace hb := nb hb <;> try exact noB hb) | (refine cd (fun hb => ?_) (fun hb => ?_) <;> replace hb := nb hb <;> try exact noB hb) | (with_reducible refine Exists.intro _ (And.intro rfl ?_)) | ((with_reducible refine And.intro ?_ ?_); (focus exact sdA)) | fail)
  refine fin ?_
  exact .rfl
set_option maxHeartbeats 1000000 in
theorem mplus_0 (k : Nat) (many : Int) (bad : Bool) (o : OpS) (hm : 0 ≤ many ∧ many ≤ 100000) : Fn Try.prog 107 [.ptr 0 0, o.v] (mkr k [] many bad) (.tup []) (mkr (k + 1) [lay (many + 1) (plusL [])] (many + 1) true) := by
  have c1 := mtake_no k many bad
  have c3 := mput_d (ds := [D.agg [.int .i64 2, .int .i64 0, .int .i64 1, .bool false, .sl 2 []]]) k [] (many + 1) true (plusL []) (by simp) rfl
  refine en Try.func107 (hfr := by (simp only [Try.ntmps107, go_sem, Nat.reduceSub, Nat.reduceAdd]; rfl)) ?_
  repeat' (first | exact absurd hb Bool.false_ne_true | exact absurd hb.symm Bool.false_ne_true | refine W.seq ?_ | refine W.block ?_ | (refine rg [] ?_; intro K hK) | (refine dr [] ?_; intro K hK) | refine cle [0, 1] 0 (c1) ?_ | refine cle [0, 1] 0 (c3) ?_ | refine oq ?_ | refine sk ?_ | (refine nk hK ?_; clear hK K) | (refine nd hK ?_; clear hK K) | refine sp ?_ | refine ex ?_ | (refine gs (fun hb => ?_) (fun hb => ?_) <;> replace hb := nb hb <;> try exact noB hb) | (refine cd (fun hb => ?_) (fun hb => ?_) <;> replace hb := nb hb <;> try exact noB hb) | (with_reducible refine Exists.intro _ (And.intro rfl ?_)) | ((with_reducible refine And.intro ?_ ?_); (focus exact sdA)) | fail)
  refine fin ?_
  exact .rfl
set_option maxHeartbeats 1000000 in
theorem mopt_0 (k : Nat) (many : Int) (bad : Bool) (o : OpS) (hm : 0 ≤ many ∧ many ≤ 100000) : Fn Try.prog 108 [.ptr 0 0, o.v] (mkr k [] many bad) (.tup []) (mkr (k + 1) [lay (many + 1) (optL [])] (many + 1) true) := by
  have c1 := mtake_no k many bad
  have c3 := mput_d (ds := [D.agg [.int .i64 2, .int .i64 1, .int .i64 1, .bool false, .sl 2 []]]) k [] (many + 1) true (optL []) (by simp) rfl
  refine en Try.func108 (hfr := by (simp only [Try.ntmps108, go_sem, Nat.reduceSub, Nat.reduceAdd]; rfl)) ?_
  repeat' (first | exact absurd hb Bool.false_ne_true | exact absurd hb.symm Bool.false_ne_true | refine W.seq ?_ | refine W.block ?_ | (refine rg [] ?_; intro K hK) | (refine dr [] ?_; intro K hK) | refine cle [0, 1] 0 (c1) ?_ | refine cle [0, 1] 0 (c3) ?_ | refine oq ?_ | refine sk ?_ | (refine nk hK ?_; clear hK K) | (refine nd hK ?_; clear hK K) | refine sp ?_ | refine ex ?_ | (refine gs (fun hb => ?_) (fun hb => ?_) <;> replace hb := nb hb <;> try exact noB hb) | (refine cd (fun hb => ?_) (fun hb => ?_) <;> replace hb := nb hb <;> try exact noB hb) | (with_reducible refine Exists.intro _ (And.intro rfl ?_)) | ((with_reducible refine And.intro ?_ ?_); (focus exact sdA)) | fail)
  refine fin ?_
  exact .rfl
theorem makers_fn : Fn Try.prog 65 [] [] (.map 0) [.mp [(.int .i64 1, .fn (.func 102) [] [], 0), (.int .i64 2, .fn (.func 103) [] [], 1), (.int .i64 3, .fn (.func 104) [] [], 2), (.int .i64 4, .fn (.func 105) [] [], 3), (.int .i64 5, .fn (.func 106) [] [], 4), (.int .i64 6, .fn (.func 107) [] [], 5), (.int .i64 7, .fn (.func 108) [] [], 6)] 7] := by
  refine en Try.func65 (hfr := by (simp only [Try.ntmps65, go_sem, Nat.reduceSub, Nat.reduceAdd]; rfl)) ?_
  repeat' (first | exact absurd hb Bool.false_ne_true | exact absurd hb.symm Bool.false_ne_true | refine W.seq ?_ | refine W.block ?_ | (refine rg [] ?_; intro K hK) | (refine dr [] ?_; intro K hK) | refine oq ?_ | refine sk ?_ | (refine nk hK ?_; clear hK K) | (refine nd hK ?_; clear hK K) | refine sp ?_ | refine ex ?_ | (refine gs (fun hb => ?_) (fun hb => ?_) <;> replace hb := nb hb <;> try exact noB hb) | (refine cd (fun hb => ?_) (fun hb => ?_) <;> replace hb := nb hb <;> try exact noB hb) | (with_reducible refine Exists.intro _ (And.intro rfl ?_)) | ((with_reducible refine And.intro ?_ ?_); (focus exact sdA)) | fail)
  all_goals (refine rt ?_; refine fin ?_; exact wqA)
/-- A maker whose last piece keeps its room. -/
abbrev mko (k : Nat) (rows : List (List InstS)) (l : List InstS) (many : Int) (bad : Bool) : List Ob := [.cells 141 [.hd 1 k (rows.length + 1), i64 many, bool bad], .grw 69 1 k (rows.length + 1) (rowsV rows ++ [.own 5 (l.map instD) 2]), .cap 81 5 l.length]
/-- A maker, and the room of a piece. -/
abbrev mki (k : Nat) (rows : List (List InstS)) (n : Nat) (many : Int) (bad : Bool) : List Ob := [.cells 141 [.hd 1 k rows.length, i64 many, bool bad], .grw 69 1 k rows.length (rowsV rows), .cap 81 5 n]
/-- The state told otherwise, at the end. -/
def PostE (k : Nat) (Q : Post) : Post := fun e fr1 σ1 => ∃ fr2 σ2, Ent k fr1 σ1 fr2 σ2 ∧ Q e fr2 σ2
theorem W.post {P : Program} {k : Nat} {c : Code} {fr : List V} {σ : List Ob} {Q : Post} (h : W P k c fr σ (PostE k Q)) : W P k c fr σ Q := fun w0 lent C w a R hf hd hk => by
  refine wp_mono (h w0 lent C w a R hf hd hk) fun e a'' w'' ⟨C'', fr'', σ'', k1, k2, k3, k4, k5, k6⟩ => ?_
  obtain ⟨fr2, σ2, hE, hQ⟩ := k1
  obtain ⟨C3, R3, hf3, hk3, hle3⟩ := hE w0 lent C'' w'' a'' k2 k3 k5
  exact ⟨C3, fr2, σ2, hQ, R3, hf3, k4, hk3, k6.trans hle3⟩
theorem ltL_app (n : Nat) : ∀ xs ys : List V, V.ltL n (xs ++ ys) = (V.ltL n xs && V.ltL n ys)
  | [], ys => by simp [V.ltL]
  | x :: xs, ys => by simp only [List.cons_append, V.ltL, ltL_app n xs ys, Bool.and_assoc]
theorem renL_app (π : List Nat) : ∀ xs ys : List V, V.renL π (xs ++ ys) = V.renL π xs ++ V.renL π ys
  | [], ys => by simp [V.renL]
  | x :: xs, ys => by simp only [List.cons_append, V.renL, renL_app π xs ys]
attribute [go_sem ↓] renL_app ltL_app
set_option maxHeartbeats 1000000 in
theorem mput_own (k : Nat) (rows : List (List InstS)) (many : Int) (bad : Bool) (l : List InstS) (hr : rows.length ≤ 100000) (hm : many ≤ 200) : Fn Try.prog 125 [.ptr 0 0, .own 5 (l.map instD) 2] (mki k rows l.length many bad) (.tup []) (mko (k + 1) rows l many bad) := by
  refine en Try.func125 (hfr := by (simp only [Try.ntmps125, go_sem, Nat.reduceSub, Nat.reduceAdd]; rfl)) ?_
  repeat' (first | exact absurd hb Bool.false_ne_true | exact absurd hb.symm Bool.false_ne_true | refine W.seq ?_ | refine W.block ?_ | (refine rg [15, 16] ?_; intro K hK) | (refine dr [15, 16] ?_; intro K hK) | refine oq ?_ | refine sk ?_ | (refine nk hK ?_; clear hK K) | (refine nd hK ?_; clear hK K) | refine sp ?_ | refine ex ?_ | (refine gs (fun hb => ?_) (fun hb => ?_) <;> replace hb := nb hb <;> try exact noB hb) | (refine cd (fun hb => ?_) (fun hb => ?_) <;> replace hb := nb hb <;> try exact noB hb) | (with_reducible refine Exists.intro _ (And.intro rfl ?_)) | ((with_reducible refine And.intro ?_ ?_); (focus exact sdA)) | fail)
  refine fin ?_ (ha := ?_)
  · exact .rfl
  · simp only [Ob.lt, V.ltL, V.lt, ltL_app, ltL_dmap, List.all_cons, List.all_nil, List.length_cons, List.length_nil, Nat.reduceAdd, Nat.reduceLT, decide_true, Bool.and_self, Bool.and_true]
theorem mko_lt (k : Nat) (rows : List (List InstS)) (l : List InstS) (many : Int) (bad : Bool) : (mko k rows l many bad).all (Ob.lt 3) = true := by
  simp only [Ob.lt, V.ltL, V.lt, ltL_app, ltL_dmap, List.all_cons, List.all_nil, Nat.reduceLT, decide_true, Bool.and_self, Bool.and_true]
set_option maxHeartbeats 1000000 in
theorem mset_own (k : Nat) (rows : List (List InstS)) (many : Int) (bad : Bool) (o : OpS) (hr : rows.length ≤ 100000) (hm : 0 ≤ many ∧ many + 1 ≤ 200) (hs : o.spans.length ≤ 10000) : Fn Try.prog 102 [.ptr 0 0, o.v] (mkr k rows many bad) (.tup []) (mko (k + 1) rows [⟨1, 0, 0, o.not, o.spans⟩] (many + 1) bad) := by
  have c := mput_own k rows (many + 1) bad [⟨1, 0, 0, o.not, o.spans⟩] hr hm.2
  refine en Try.func102 (hfr := by (simp only [Try.ntmps102, go_sem, Nat.reduceSub, Nat.reduceAdd]; rfl)) ?_
  refine W.post ?_
  repeat' (first | exact absurd hb Bool.false_ne_true | exact absurd hb.symm Bool.false_ne_true | refine W.seq ?_ | refine W.block ?_ | (refine rg [] ?_; intro K hK) | (refine dr [] ?_; intro K hK) | ((refine cle [0, 1, 5] 0 (c) ?_ (ho' := mko_lt ..))) | refine oq ?_ | refine sk ?_ | (refine nk hK ?_; clear hK K) | (refine nd hK ?_; clear hK K) | refine sp ?_ | refine ex ?_ | (refine gs (fun hb => ?_) (fun hb => ?_) <;> replace hb := nb hb <;> try exact noB hb) | (refine cd (fun hb => ?_) (fun hb => ?_) <;> replace hb := nb hb <;> try exact noB hb) | (with_reducible refine Exists.intro _ (And.intro rfl ?_)) | ((with_reducible refine And.intro ?_ ?_); (focus exact sdA)) | fail)
  refine ⟨ay 21 [], mko (k + 1) rows [⟨1, 0, 0, o.not, o.spans⟩] (many + 1) bad, sb [0, 1, 5] _ _ (ho := mko_lt ..) (hf := ?_), ?_⟩
  · skip
    exact wkA
  · refine fin ?_ (ha := mko_lt ..)
    exact .rfl
theorem mput_ownD {ds : List D} {n : Nat} (k : Nat) (rows : List (List InstS)) (many : Int) (bad : Bool) (l : List InstS) (hr : rows.length ≤ 100000) (hm : many ≤ 200) (h : ds = l.map instD) (hn : n = l.length) : Fn Try.prog 125 [.ptr 0 0, .own 5 ds 2] (mki k rows n many bad) (.tup []) (mko (k + 1) rows l many bad) := by
  subst h
  subst hn
  exact mput_own k rows many bad l hr hm
set_option maxHeartbeats 1000000 in
theorem mcat_own (k : Nat) (rows : List (List InstS)) (a b : List InstS) (many : Int) (bad : Bool) (o : OpS) (hr : rows.length ≤ 10000) (ha : a.length ≤ 10000) (hb : b.length ≤ 10000) (hm : 0 ≤ many ∧ many + 0 ≤ 200) : Fn Try.prog 104 [.ptr 0 0, o.v] (mkr k (rows ++ [a] ++ [b]) many bad) (.tup []) (mko (k + 1 + 1 + 1) rows (a ++ b) many bad) := by
  have c1 := mtake_ok k (rows ++ [a]) b many bad (by rw [snocL]; omega)
  have c2 := mtake_ok (k + 1) rows a many bad (by omega)
  have c := mput_ownD (ds := (a ++ b).map instD) (n := a.length + b.length) (k + 1 + 1) rows many bad (a ++ b) (by omega) (by omega) rfl (by simp)
  refine en Try.func104 (hfr := by (simp only [Try.ntmps104, go_sem, Nat.reduceSub, Nat.reduceAdd]; rfl)) ?_
  refine W.post ?_
  repeat' (first | exact absurd hb Bool.false_ne_true | exact absurd hb.symm Bool.false_ne_true | refine W.seq ?_ | refine W.block ?_ | (refine rg [] ?_; intro K hK) | (refine dr [] ?_; intro K hK) | refine cle [0, 1] 0 (c1) ?_ | refine cle [0, 1] 0 (c2) ?_ | ((refine cle [0, 1, 3] 0 (c) ?_ (ho' := mko_lt ..))) | refine oq ?_ | refine sk ?_ | (refine nk hK ?_; clear hK K) | (refine nd hK ?_; clear hK K) | refine sp ?_ | refine ex ?_ | (refine gs (fun hb => ?_) (fun hb => ?_) <;> replace hb := nb hb <;> try exact noB hb) | (refine cd (fun hb => ?_) (fun hb => ?_) <;> replace hb := nb hb <;> try exact noB hb) | (with_reducible refine Exists.intro _ (And.intro rfl ?_)) | ((with_reducible refine And.intro ?_ ?_); (focus exact sdA)) | fail)
  refine ⟨ay 17 [], mko (k + 1 + 1 + 1) rows (a ++ b) many bad, sb [0, 1, 3] _ _ (ho := mko_lt ..) (hf := ?_), ?_⟩
  · skip
    exact wkA
  · refine fin ?_ (ha := mko_lt ..)
    exact .rfl
set_option maxHeartbeats 1000000 in
theorem malt_own (k : Nat) (rows : List (List InstS)) (a b : List InstS) (many : Int) (bad : Bool) (o : OpS) (hr : rows.length ≤ 10000) (ha : a.length ≤ 10000) (hb : b.length ≤ 10000) (hm : 0 ≤ many ∧ many + 2 ≤ 200) : Fn Try.prog 105 [.ptr 0 0, o.v] (mkr k (rows ++ [a] ++ [b]) many bad) (.tup []) (mko (k + 1 + 1 + 1) rows (altL a b) (many + 2) bad) := by
  have c1 := mtake_ok k (rows ++ [a]) b many bad (by rw [snocL]; omega)
  have c2 := mtake_ok (k + 1) rows a many bad (by omega)
  have c := mput_ownD (ds := D.agg [.int .i64 2, .int .i64 1, .int .i64 ((a.length + 2 : Nat) : Int), .bool false, .sl 2 []] :: (a.map instD ++ [D.agg [.int .i64 3, .int .i64 ((b.length + 1 : Nat) : Int), .int .i64 0, .bool false, .sl 2 []]] ++ b.map instD)) (n := 1 + a.length + 1 + b.length) (k + 1 + 1) rows (many + 2) bad (altL a b) (by omega) (by omega) (by unfold altL; rw [List.map_cons, List.map_append, List.append_assoc]; rfl) (by simp [altL]; omega)
  refine en Try.func105 (hfr := by (simp only [Try.ntmps105, go_sem, Nat.reduceSub, Nat.reduceAdd]; rfl)) ?_
  refine W.post ?_
  repeat' (first | exact absurd hb Bool.false_ne_true | exact absurd hb.symm Bool.false_ne_true | refine W.seq ?_ | refine W.block ?_ | (refine rg [] ?_; intro K hK) | (refine dr [] ?_; intro K hK) | refine cle [0, 1] 0 (c1) ?_ | refine cle [0, 1] 0 (c2) ?_ | ((refine cle [0, 1, 3] 0 (c) ?_ (ho' := mko_lt ..))) | refine oq ?_ | refine sk ?_ | (refine nk hK ?_; clear hK K) | (refine nd hK ?_; clear hK K) | refine sp ?_ | refine ex ?_ | (refine gs (fun hb => ?_) (fun hb => ?_) <;> replace hb := nb hb <;> try exact noB hb) | (refine cd (fun hb => ?_) (fun hb => ?_) <;> replace hb := nb hb <;> try exact noB hb) | (with_reducible refine Exists.intro _ (And.intro rfl ?_)) | ((with_reducible refine And.intro ?_ ?_); (focus exact sdA)) | fail)
  refine ⟨ay 37 [], mko (k + 1 + 1 + 1) rows (altL a b) (many + 2) bad, sb [0, 1, 3] _ _ (ho := mko_lt ..) (hf := ?_), ?_⟩
  · skip
    exact wkA
  · refine fin ?_ (ha := mko_lt ..)
    exact .rfl
set_option maxHeartbeats 1000000 in
theorem mstar_own (k : Nat) (rows : List (List InstS)) (a : List InstS) (many : Int) (bad : Bool) (o : OpS) (hr : rows.length ≤ 10000) (ha : a.length ≤ 10000) (hm : 0 ≤ many ∧ many + 2 ≤ 200) : Fn Try.prog 106 [.ptr 0 0, o.v] (mkr k (rows ++ [a]) many bad) (.tup []) (mko (k + 1 + 1) rows (starL a) (many + 2) bad) := by
  have c2 := mtake_ok k rows a many bad (by omega)
  have c := mput_ownD (ds := D.agg [.int .i64 2, .int .i64 1, .int .i64 ((a.length + 2 : Nat) : Int), .bool false, .sl 2 []] :: (a.map instD ++ [D.agg [.int .i64 3, .int .i64 (0 - (a.length : Int) - 1), .int .i64 0, .bool false, .sl 2 []]])) (n := 1 + a.length + 1) (k + 1) rows (many + 2) bad (starL a) (by omega) (by omega) (by unfold starL; rw [List.map_cons, List.map_append]; rfl) (by simp [starL]; omega)
  refine en Try.func106 (hfr := by (simp only [Try.ntmps106, go_sem, Nat.reduceSub, Nat.reduceAdd]; rfl)) ?_
  refine W.post ?_
  repeat' (first | exact absurd hb Bool.false_ne_true | exact absurd hb.symm Bool.false_ne_true | refine W.seq ?_ | refine W.block ?_ | (refine rg [] ?_; intro K hK) | (refine dr [] ?_; intro K hK) | refine cle [0, 1] 0 (c2) ?_ | ((refine cle [0, 1, 3] 0 (c) ?_ (ho' := mko_lt ..))) | refine oq ?_ | refine sk ?_ | (refine nk hK ?_; clear hK K) | (refine nd hK ?_; clear hK K) | refine sp ?_ | refine ex ?_ | (refine gs (fun hb => ?_) (fun hb => ?_) <;> replace hb := nb hb <;> try exact noB hb) | (refine cd (fun hb => ?_) (fun hb => ?_) <;> replace hb := nb hb <;> try exact noB hb) | (with_reducible refine Exists.intro _ (And.intro rfl ?_)) | ((with_reducible refine And.intro ?_ ?_); (focus exact sdA)) | fail)
  refine ⟨ay 32 [], mko (k + 1 + 1) rows (starL a) (many + 2) bad, sb [0, 1, 3] _ _ (ho := mko_lt ..) (hf := ?_), ?_⟩
  · skip
    exact wkA
  · refine fin ?_ (ha := mko_lt ..)
    exact .rfl
set_option maxHeartbeats 1000000 in
theorem mplus_own (k : Nat) (rows : List (List InstS)) (a : List InstS) (many : Int) (bad : Bool) (o : OpS) (hr : rows.length ≤ 10000) (ha : a.length ≤ 10000) (hm : 0 ≤ many ∧ many + 1 ≤ 200) : Fn Try.prog 107 [.ptr 0 0, o.v] (mkr k (rows ++ [a]) many bad) (.tup []) (mko (k + 1 + 1) rows (plusL a) (many + 1) bad) := by
  have c2 := mtake_ok k rows a many bad (by omega)
  have c := mput_ownD (ds := a.map instD ++ [D.agg [.int .i64 2, .int .i64 (0 - (a.length : Int)), .int .i64 1, .bool false, .sl 2 []]]) (n := a.length + 1) (k + 1) rows (many + 1) bad (plusL a) (by omega) (by omega) (by unfold plusL; rw [List.map_append]; rfl) (by simp [plusL])
  refine en Try.func107 (hfr := by (simp only [Try.ntmps107, go_sem, Nat.reduceSub, Nat.reduceAdd]; rfl)) ?_
  refine W.post ?_
  repeat' (first | exact absurd hb Bool.false_ne_true | exact absurd hb.symm Bool.false_ne_true | refine W.seq ?_ | refine W.block ?_ | (refine rg [] ?_; intro K hK) | (refine dr [] ?_; intro K hK) | refine cle [0, 1] 0 (c2) ?_ | ((refine cle [0, 1, 3] 0 (c) ?_ (ho' := mko_lt ..))) | refine oq ?_ | refine sk ?_ | (refine nk hK ?_; clear hK K) | (refine nd hK ?_; clear hK K) | refine sp ?_ | refine ex ?_ | (refine gs (fun hb => ?_) (fun hb => ?_) <;> replace hb := nb hb <;> try exact noB hb) | (refine cd (fun hb => ?_) (fun hb => ?_) <;> replace hb := nb hb <;> try exact noB hb) | (with_reducible refine Exists.intro _ (And.intro rfl ?_)) | ((with_reducible refine And.intro ?_ ?_); (focus exact sdA)) | fail)
  refine ⟨ay 25 [], mko (k + 1 + 1) rows (plusL a) (many + 1) bad, sb [0, 1, 3] _ _ (ho := mko_lt ..) (hf := ?_), ?_⟩
  · skip
    exact wkA
  · refine fin ?_ (ha := mko_lt ..)
    exact .rfl
set_option maxHeartbeats 1000000 in
theorem mopt_own (k : Nat) (rows : List (List InstS)) (a : List InstS) (many : Int) (bad : Bool) (o : OpS) (hr : rows.length ≤ 10000) (ha : a.length ≤ 10000) (hm : 0 ≤ many ∧ many + 1 ≤ 200) : Fn Try.prog 108 [.ptr 0 0, o.v] (mkr k (rows ++ [a]) many bad) (.tup []) (mko (k + 1 + 1) rows (optL a) (many + 1) bad) := by
  have c2 := mtake_ok k rows a many bad (by omega)
  have c := mput_ownD (ds := D.agg [.int .i64 2, .int .i64 1, .int .i64 ((a.length + 1 : Nat) : Int), .bool false, .sl 2 []] :: a.map instD) (n := 1 + a.length) (k + 1) rows (many + 1) bad (optL a) (by omega) (by omega) rfl (by simp [optL]; omega)
  refine en Try.func108 (hfr := by (simp only [Try.ntmps108, go_sem, Nat.reduceSub, Nat.reduceAdd]; rfl)) ?_
  refine W.post ?_
  repeat' (first | exact absurd hb Bool.false_ne_true | exact absurd hb.symm Bool.false_ne_true | refine W.seq ?_ | refine W.block ?_ | (refine rg [] ?_; intro K hK) | (refine dr [] ?_; intro K hK) | refine cle [0, 1] 0 (c2) ?_ | ((refine cle [0, 1, 3] 0 (c) ?_ (ho' := mko_lt ..))) | refine oq ?_ | refine sk ?_ | (refine nk hK ?_; clear hK K) | (refine nd hK ?_; clear hK K) | refine sp ?_ | refine ex ?_ | (refine gs (fun hb => ?_) (fun hb => ?_) <;> replace hb := nb hb <;> try exact noB hb) | (refine cd (fun hb => ?_) (fun hb => ?_) <;> replace hb := nb hb <;> try exact noB hb) | (with_reducible refine Exists.intro _ (And.intro rfl ?_)) | ((with_reducible refine And.intro ?_ ?_); (focus exact sdA)) | fail)
  refine ⟨ay 23 [], mko (k + 1 + 1) rows (optL a) (many + 1) bad, sb [0, 1, 3] _ _ (ho := mko_lt ..) (hf := ?_), ?_⟩
  · skip
    exact wkA
  · refine fin ?_ (ha := mko_lt ..)
    exact .rfl
end Go.Proofs.Ytgebfcdcpmmgnaa.Vs
