/- patterns: the pile of levels, and ops; patterns: what is repeated; patterns: whole ones. -/
import Derived.Test.YtgebfcdcpmmgnaaVnC
set_option linter.unusedVariables false
set_option linter.unusedSimpArgs false
namespace Go.Proofs.Ytgebfcdcpmmgnaa.Vs
open Go.RowKit
set_option maxRecDepth 100000
/-- A level: branches, pieces. -/
abbrev LevS := Int × Int
def levD (l : List LevS) : List D := (l.map fun p => [D.int .i64 p.1, D.int .i64 p.2]).flatten
theorem levD_len (l : List LevS) : (levD l).length = l.length * 2 := by
  induction l with
  | nil => rfl
  | cons p l ih =>
    have : (levD (p :: l)).length = 2 + (levD l).length := by simp [levD]; omega
    rw [this, ih, List.length_cons]
    omega
theorem levD_snoc (l : List LevS) (p : LevS) : levD (l ++ [p]) = levD l ++ [.int .i64 p.1, .int .i64 p.2] := by simp [levD]
/-- Levels, the last one apart. -/
abbrev levV (l : List LevS) (p : LevS) : List V := (levD (l ++ [p])).map .d
theorem lev_map (l : List LevS) (p : LevS) : (levD (l ++ [p])).map V.d = (levD l).map .d ++ [i64 p.1, i64 p.2] := by rw [levD_snoc, List.map_append]; rfl
@[go_sem ↓] theorem lev_get0 (l : List LevS) (p : LevS) (d : V) : ((levD (l ++ [p])).map V.d).getD (l.length * 2) d = i64 p.1 := by
  rw [lev_map, List.getD_eq_getElem?_getD, List.getElem?_append_right (by rw [List.length_map, levD_len]; omega), List.length_map, levD_len]
  simp
@[go_sem ↓] theorem lev_get1 (l : List LevS) (p : LevS) (d : V) : ((levD (l ++ [p])).map V.d).getD (l.length * 2 + 1) d = i64 p.2 := by
  rw [lev_map, List.getD_eq_getElem?_getD, List.getElem?_append_right (by rw [List.length_map, levD_len]; omega), List.length_map, levD_len]
  simp
@[go_sem ↓] theorem lev_set0 (l : List LevS) (p : LevS) (c : Int) : ((levD (l ++ [p])).map V.d).set (l.length * 2) (i64 c) = (levD (l ++ [(c, p.2)])).map V.d := by
  rw [lev_map, lev_map, List.set_append_right _ _ (by rw [List.length_map, levD_len]; omega), List.length_map, levD_len]
  simp
@[go_sem ↓] theorem lev_set1 (l : List LevS) (p : LevS) (c : Int) : ((levD (l ++ [p])).map V.d).set (l.length * 2 + 1) (i64 c) = (levD (l ++ [(p.1, c)])).map V.d := by
  rw [lev_map, lev_map, List.set_append_right _ _ (by rw [List.length_map, levD_len]; omega), List.length_map, levD_len]
  simp
@[go_sem ↓] theorem lev_len (l : List LevS) (p : LevS) : (levD (l ++ [p])).length = l.length * 2 + 2 := by rw [levD_len, List.length_append, List.length_cons, List.length_nil]; omega
/-- A reader: what is read, where, the ops so far, the levels that are open. -/
abbrev rgr (s : List UInt8) (pos : Nat) (out : List OpS) (k : Nat) (l : List LevS) (p : LevS) : List Ob := [.cells 157 [bytes s, i64 pos, .own 3 (out.map opD) 1, .hd 2 k (l.length + 1)], .cap 138 3 out.length, .grw 160 2 k (l.length + 1) (levV l p)]
theorem snoc_len {α : Type} (l : List α) (x : α) : (l ++ [x]).length = l.length + 1 := by simp
theorem op_fn (s : List UInt8) (pos : Nat) (out : List OpS) (k : Nat) (l : List LevS) (p : LevS) (kind : Int) (ho : out.length ≤ 100000) : Fn Try.prog 114 [.ptr 0 0, i64 kind] (rgr s pos out k l p) (.tup []) (rgr s pos (out ++ [⟨kind, false, []⟩]) k l p) := by
  have e : out.map opD ++ [.agg [.int .i64 kind, .bool false, .sl 2 []]] = (out ++ [OpS.mk kind false []]).map opD := by rw [List.map_append]; rfl
  have h1 : (out ++ [OpS.mk kind false []]).length = out.length + 1 := by simp
  refine en Try.func114 (hfr := by (simp only [Try.ntmps114, go_sem, Nat.reduceSub, Nat.reduceAdd]; rfl)) ?_
  repeat' (first | exact absurd hb Bool.false_ne_true | exact absurd hb.symm Bool.false_ne_true | refine W.seq ?_ | refine W.block ?_ | (refine rg [] ?_; intro K hK) | (refine dr [] ?_; intro K hK) | refine oq ?_ | refine sk ?_ | (refine nk hK ?_; clear hK K) | (refine nd hK ?_; clear hK K) | refine sp ?_ | refine ex ?_ | (refine gs (fun hb => ?_) (fun hb => ?_) <;> replace hb := nb hb <;> try exact noB hb) | (refine cd (fun hb => ?_) (fun hb => ?_) <;> replace hb := nb hb <;> try exact noB hb) | (with_reducible refine Exists.intro _ (And.intro rfl ?_)) | ((with_reducible refine And.intro ?_ ?_); (focus exact sdA)) | fail)
  rw [e, ← h1]
  refine fin ?_
  exact .rfl
theorem top_fn (k : Nat) (l : List LevS) (p : LevS) (hl : l.length ≤ 100000) : Fn Try.prog 113 [.hd 0 k (l.length + 1)] [.grw 160 2 k (l.length + 1) (levV l p)] (.ep 0 k (l.length * 2)) [.grw 160 2 k (l.length + 1) (levV l p)] := by
  have h1 : ((l.length + 1 : Nat) - 1 : Int).toNat * 2 = l.length * 2 := by omega
  refine en Try.func113 (hfr := by (simp only [Try.ntmps113, go_sem, Nat.reduceSub, Nat.reduceAdd]; rfl)) ?_
  repeat' (first | exact absurd hb Bool.false_ne_true | exact absurd hb.symm Bool.false_ne_true | refine W.seq ?_ | refine W.block ?_ | (refine rg [] ?_; intro K hK) | (refine dr [] ?_; intro K hK) | refine oq ?_ | refine sk ?_ | (refine nk hK ?_; clear hK K) | (refine nd hK ?_; clear hK K) | refine sp ?_ | refine ex ?_ | (refine gs (fun hb => ?_) (fun hb => ?_) <;> replace hb := nb hb <;> try exact noB hb) | (refine cd (fun hb => ?_) (fun hb => ?_) <;> replace hb := nb hb <;> try exact noB hb) | (with_reducible refine Exists.intro _ (And.intro rfl ?_)) | ((with_reducible refine And.intro ?_ ?_); (focus exact sdA)) | fail)
  rw [h1]
  all_goals (refine rt ?_; refine fin ?_; exact wqA)
set_option maxHeartbeats 1000000 in
theorem piece_fn (s : List UInt8) (pos : Nat) (out : List OpS) (k : Nat) (l : List LevS) (p : LevS) (ho : out.length ≤ 100000) (hl : l.length ≤ 100000) (hp : 0 ≤ p.2 ∧ p.2 ≤ 1000000) : Fn Try.prog 127 [.ptr 0 0] (rgr s pos out k l p) (.tup []) (rgr s pos (if 0 < p.2 then out ++ [⟨3, false, []⟩] else out) k l (p.1, p.2 + 1)) := by
  have c1 := top_fn k l p hl
  have c2 := op_fn s pos out k l (p.1, p.2 + 1) 3 ho
  refine en Try.func127 (hfr := by (simp only [Try.ntmps127, go_sem, Nat.reduceSub, Nat.reduceAdd]; rfl)) ?_
  repeat' (first | exact absurd hb Bool.false_ne_true | exact absurd hb.symm Bool.false_ne_true | refine W.seq ?_ | refine W.block ?_ | (refine rg [] ?_; intro K hK) | (refine dr [] ?_; intro K hK) | refine cle [2] 0 (c1) ?_ | refine cle [0, 1, 2] 0 (c2) ?_ | refine oq ?_ | refine sk ?_ | (refine nk hK ?_; clear hK K) | (refine nd hK ?_; clear hK K) | refine sp ?_ | refine ex ?_ | (refine gs (fun hb => ?_) (fun hb => ?_) <;> replace hb := nb hb <;> try exact noB hb) | (refine cd (fun hb => ?_) (fun hb => ?_) <;> replace hb := nb hb <;> try exact noB hb) | (with_reducible refine Exists.intro _ (And.intro rfl ?_)) | ((with_reducible refine And.intro ?_ ?_); (focus exact sdA)) | fail)
  · rw [if_pos (by omega), ← snoc_len out ⟨3, false, []⟩]
    refine fin ?_
    exact .rfl
  · rw [if_neg (by omega)]
    refine fin ?_
    exact .rfl
/-- What a branch's end adds. -/
def endOps (p : LevS) : List OpS := (if p.2 = 0 then [⟨2, false, []⟩] else []) ++ (if 0 < p.1 then [⟨4, false, []⟩] else [])
set_option maxHeartbeats 2000000 in
theorem branch_fn (s : List UInt8) (pos : Nat) (out : List OpS) (k : Nat) (l : List LevS) (p : LevS) (ho : out.length ≤ 90000) (hl : l.length ≤ 100000) (hp : 0 ≤ p.1 ∧ p.1 ≤ 1000000) : Fn Try.prog 71 [.ptr 0 0] (rgr s pos out k l p) (.tup []) (rgr s pos (out ++ endOps p) k l (p.1 + 1, 0)) := by
  have c1 := top_fn k l p hl
  have c2 := op_fn s pos out k l p 2 (by omega)
  have c3 := op_fn s pos out k l p 4 (by omega)
  have c4 := op_fn s pos (out ++ [⟨2, false, []⟩]) k l p 4 (by simp; omega)
  unfold endOps
  by_cases h2 : p.2 = 0
  · rw [if_pos h2]
    by_cases h1 : 0 < p.1
    · rw [if_pos h1, ← List.append_assoc]
      refine en Try.func71 (hfr := by (simp only [Try.ntmps71, go_sem, Nat.reduceSub, Nat.reduceAdd]; rfl)) ?_
      repeat' (first | exact absurd hb Bool.false_ne_true | exact absurd hb.symm Bool.false_ne_true | refine W.seq ?_ | refine W.block ?_ | (refine rg [] ?_; intro K hK) | (refine dr [] ?_; intro K hK) | refine cle [2] 0 (c1) ?_ | refine cle [0, 1, 2] 0 (c2) ?_ | refine cle [0, 1, 2] 0 (c4) ?_ | refine oq ?_ | refine sk ?_ | (refine nk hK ?_; clear hK K) | (refine nd hK ?_; clear hK K) | refine sp ?_ | refine ex ?_ | (refine gs (fun hb => ?_) (fun hb => ?_) <;> replace hb := nb hb <;> try exact noB hb) | (refine cd (fun hb => ?_) (fun hb => ?_) <;> replace hb := nb hb <;> try exact noB hb) | (with_reducible refine Exists.intro _ (And.intro rfl ?_)) | ((with_reducible refine And.intro ?_ ?_); (focus exact sdA)) | fail)
      rw [← snoc_len out (OpS.mk 2 false []), ← snoc_len (out ++ [OpS.mk 2 false []]) (OpS.mk 4 false [])]
      refine fin ?_
      exact .rfl
    · rw [if_neg h1, List.append_nil]
      refine en Try.func71 (hfr := by (simp only [Try.ntmps71, go_sem, Nat.reduceSub, Nat.reduceAdd]; rfl)) ?_
      repeat' (first | exact absurd hb Bool.false_ne_true | exact absurd hb.symm Bool.false_ne_true | refine W.seq ?_ | refine W.block ?_ | (refine rg [] ?_; intro K hK) | (refine dr [] ?_; intro K hK) | refine cle [2] 0 (c1) ?_ | refine cle [0, 1, 2] 0 (c2) ?_ | refine oq ?_ | refine sk ?_ | (refine nk hK ?_; clear hK K) | (refine nd hK ?_; clear hK K) | refine sp ?_ | refine ex ?_ | (refine gs (fun hb => ?_) (fun hb => ?_) <;> replace hb := nb hb <;> try exact noB hb) | (refine cd (fun hb => ?_) (fun hb => ?_) <;> replace hb := nb hb <;> try exact noB hb) | (with_reducible refine Exists.intro _ (And.intro rfl ?_)) | ((with_reducible refine And.intro ?_ ?_); (focus exact sdA)) | fail)
      rw [← snoc_len out ⟨2, false, []⟩]
      refine fin ?_
      exact .rfl
  · rw [if_neg h2]
    by_cases h1 : 0 < p.1
    · rw [if_pos h1, List.nil_append]
      refine en Try.func71 (hfr := by (simp only [Try.ntmps71, go_sem, Nat.reduceSub, Nat.reduceAdd]; rfl)) ?_
      repeat' (first | exact absurd hb Bool.false_ne_true | exact absurd hb.symm Bool.false_ne_true | refine W.seq ?_ | refine W.block ?_ | (refine rg [] ?_; intro K hK) | (refine dr [] ?_; intro K hK) | refine cle [2] 0 (c1) ?_ | refine cle [0, 1, 2] 0 (c3) ?_ | refine oq ?_ | refine sk ?_ | (refine nk hK ?_; clear hK K) | (refine nd hK ?_; clear hK K) | refine sp ?_ | refine ex ?_ | (refine gs (fun hb => ?_) (fun hb => ?_) <;> replace hb := nb hb <;> try exact noB hb) | (refine cd (fun hb => ?_) (fun hb => ?_) <;> replace hb := nb hb <;> try exact noB hb) | (with_reducible refine Exists.intro _ (And.intro rfl ?_)) | ((with_reducible refine And.intro ?_ ?_); (focus exact sdA)) | fail)
      rw [← snoc_len out ⟨4, false, []⟩]
      refine fin ?_
      exact .rfl
    · rw [if_neg h1, List.nil_append, List.append_nil]
      refine en Try.func71 (hfr := by (simp only [Try.ntmps71, go_sem, Nat.reduceSub, Nat.reduceAdd]; rfl)) ?_
      repeat' (first | exact absurd hb Bool.false_ne_true | exact absurd hb.symm Bool.false_ne_true | refine W.seq ?_ | refine W.block ?_ | (refine rg [] ?_; intro K hK) | (refine dr [] ?_; intro K hK) | refine cle [2] 0 (c1) ?_ | refine oq ?_ | refine sk ?_ | (refine nk hK ?_; clear hK K) | (refine nd hK ?_; clear hK K) | refine sp ?_ | refine ex ?_ | (refine gs (fun hb => ?_) (fun hb => ?_) <;> replace hb := nb hb <;> try exact noB hb) | (refine cd (fun hb => ?_) (fun hb => ?_) <;> replace hb := nb hb <;> try exact noB hb) | (with_reducible refine Exists.intro _ (And.intro rfl ?_)) | ((with_reducible refine And.intro ?_ ?_); (focus exact sdA)) | fail)
      refine fin ?_
      exact .rfl
/-- What is repeated by a byte. -/
def repK (c : UInt8) : Int := if c = 42 then 5 else if c = 43 then 6 else if c = 63 then 7 else 0
set_option maxHeartbeats 2000000 in
theorem repeat_no (s : List UInt8) (pos : Nat) (out : List OpS) (k : Nat) (l : List LevS) (p : LevS) (ho : out.length ≤ 90000) (hl : l.length ≤ 100000) (hp : 0 ≤ p.2 ∧ p.2 ≤ 1000000) (h : s.length ≤ pos) (hq : pos ≤ 100000) : Fn Try.prog 111 [.ptr 0 0] (rgr s pos out k l p) (.tup []) (rgr s pos (if 0 < p.2 then out ++ [⟨3, false, []⟩] else out) k l (p.1, p.2 + 1)) := by
  have c1 := piece_fn s pos out k l p (by omega) hl hp
  refine en Try.func111 (hfr := by (simp only [Try.ntmps111, go_sem, Nat.reduceSub, Nat.reduceAdd]; rfl)) ?_
  repeat' (first | exact absurd hb Bool.false_ne_true | exact absurd hb.symm Bool.false_ne_true | refine W.seq ?_ | refine W.block ?_ | (refine rg [] ?_; intro K hK) | (refine dr [] ?_; intro K hK) | refine cle [0, 1, 2] 0 (c1) ?_ | refine oq ?_ | refine sk ?_ | (refine nk hK ?_; clear hK K) | (refine nd hK ?_; clear hK K) | refine sp ?_ | refine ex ?_ | (refine gs (fun hb => ?_) (fun hb => ?_) <;> replace hb := nb hb <;> try exact noB hb) | (refine cd (fun hb => ?_) (fun hb => ?_) <;> replace hb := nb hb <;> try exact noB hb) | (with_reducible refine Exists.intro _ (And.intro rfl ?_)) | ((with_reducible refine And.intro ?_ ?_); (focus exact sdA)) | fail)
  refine fin ?_
  exact .rfl
theorem u8_ne {c d : UInt8} (h : ¬ c = d) : ((c.toNat : Int) == (d.toNat : Int)) = false := by
  rw [beq_eq_false_iff_ne]
  intro e
  exact h (UInt8.toNat_inj.1 (by omega))
theorem repK_0 {c : UInt8} (h : repK c = 0) : ((c.toNat : Int) == 42) = false ∧ ((c.toNat : Int) == 43) = false ∧ ((c.toNat : Int) == 63) = false := by
  unfold repK at h
  split at h
  · omega
  · split at h
    · omega
    · split at h
      · omega
      · rename_i h1 h2 h3
        exact ⟨u8_ne h1, u8_ne h2, u8_ne h3⟩
/-- A reader, whatever levels are open. -/
abbrev rgo (s : List UInt8) (pos : Nat) (out : List OpS) (k : Nat) (lv : List LevS) : List Ob := [.cells 157 [bytes s, i64 pos, .own 3 (out.map opD) 1, .hd 2 k lv.length], .cap 138 3 out.length, .grw 160 2 k lv.length ((levD lv).map .d)]
set_option maxHeartbeats 2000000 in
theorem put_fn (s : List UInt8) (pos : Nat) (out : List OpS) (k : Nat) (lv : List LevS) (q : LevS) (hl : lv.length ≤ 100000) : Fn Try.prog 69 [.ptr 0 3, .agg [i64 q.1, i64 q.2]] (rgo s pos out k lv) (.tup []) (rgr s pos out (k + 1) lv q) := by
  refine en Try.func69 (hfr := by (simp only [Try.ntmps69, go_sem, Nat.reduceSub, Nat.reduceAdd]; rfl)) ?_
  repeat' (first | exact absurd hb Bool.false_ne_true | exact absurd hb.symm Bool.false_ne_true | refine W.seq ?_ | refine W.block ?_ | (refine rg [] ?_; intro K hK) | (refine dr [] ?_; intro K hK) | refine oq ?_ | refine sk ?_ | (refine nk hK ?_; clear hK K) | (refine nd hK ?_; clear hK K) | refine sp ?_ | refine ex ?_ | (refine gs (fun hb => ?_) (fun hb => ?_) <;> replace hb := nb hb <;> try exact noB hb) | (refine cd (fun hb => ?_) (fun hb => ?_) <;> replace hb := nb hb <;> try exact noB hb) | (with_reducible refine Exists.intro _ (And.intro rfl ?_)) | ((with_reducible refine And.intro ?_ ?_); (focus exact sdA)) | fail)
  rw [show (levD lv).map V.d ++ [V.d (.int .i64 q.1), V.d (.int .i64 q.2)] = levV lv q from (lev_map lv q).symm]
  refine fin ?_
  exact .rfl
set_option maxHeartbeats 2000000 in
theorem bytes_fn (s : List UInt8) (pos : Nat) (out : List OpS) (k : Nat) (l : List LevS) (p : LevS) (h : pos < s.length) (hq : s.length ≤ 100000) (hc : 48 ≤ (s.getD pos 0).toNat ∧ (s.getD pos 0).toNat ≤ 57 ∨ 97 ≤ (s.getD pos 0).toNat ∧ (s.getD pos 0).toNat ≤ 122) : Fn Try.prog 112 [.ptr 0 0] (rgr s pos out k l p) (.tup [.agg [i64 1, bool false, .d (spansD [⟨s.getD pos 0, s.getD pos 0⟩])], bool true]) (rgr s (pos + 1) out k l p) := by
  refine en Try.func112 (hfr := by (simp only [Try.ntmps112, go_sem, Nat.reduceSub, Nat.reduceAdd]; rfl)) ?_
  repeat' (first | exact absurd hb Bool.false_ne_true | exact absurd hb.symm Bool.false_ne_true | refine W.seq ?_ | refine W.block ?_ | (refine rg [] ?_; intro K hK) | (refine dr [] ?_; intro K hK) | refine oq ?_ | refine sk ?_ | (refine nk hK ?_; clear hK K) | (refine nd hK ?_; clear hK K) | refine sp ?_ | refine ex ?_ | (refine gs (fun hb => ?_) (fun hb => ?_) <;> replace hb := nb hb <;> try exact noB hb) | (refine cd (fun hb => ?_) (fun hb => ?_) <;> replace hb := nb hb <;> try exact noB hb) | (with_reducible refine Exists.intro _ (And.intro rfl ?_)) | ((with_reducible refine And.intro ?_ ?_); (focus exact sdA)) | fail)
  all_goals (refine rt ?_; refine fin ?_; exact wqA)
theorem repK_V (c : UInt8) {d1 : Decidable (((c.toNat : Int) == 42) = true)} {d2 : Decidable (((c.toNat : Int) == 43) = true)} {d3 : Decidable (((c.toNat : Int) == 63) = true)} : (@ite _ (((c.toNat : Int) == 42) = true) d1 (V.d (.int .i64 5)) (@ite _ (((c.toNat : Int) == 43) = true) d2 (V.d (.int .i64 6)) (@ite _ (((c.toNat : Int) == 63) = true) d3 (V.d (.int .i64 7)) (V.d (.int .i64 0))))) = i64 (repK c) := by
  unfold repK
  by_cases h1 : c = 42
  · subst h1; simp
  by_cases h2 : c = 43
  · subst h2; simp
  by_cases h3 : c = 63
  · subst h3; simp
  have e1 : ((c.toNat : Int) == 42) = false := u8_ne h1
  have e2 : ((c.toNat : Int) == 43) = false := u8_ne h2
  have e3 : ((c.toNat : Int) == 63) = false := u8_ne h3
  rw [if_neg h1, if_neg h2, if_neg h3, if_neg (by rw [e1]; decide), if_neg (by rw [e2]; decide), if_neg (by rw [e3]; decide)]
theorem repK_le (c : UInt8) : repK c = 0 ∨ 5 ≤ repK c ∧ repK c ≤ 7 := by
  unfold repK
  (repeat' split) <;> omega
theorem wkE {v u : V} (h : v = u) : Wk v u := by subst h; exact .rfl
/-- Is there a repeat? -/
def isRep (s : List UInt8) (pos : Nat) : Bool := decide (pos < s.length) && decide (0 < repK (s.getD pos 0))
def repP (s : List UInt8) (pos : Nat) : Nat := if isRep s pos then pos + 1 else pos
def repO (s : List UInt8) (pos : Nat) (out : List OpS) : List OpS := if isRep s pos then out ++ [⟨repK (s.getD pos 0), false, []⟩] else out
def pieceO (out : List OpS) (p : LevS) : List OpS := if 0 < p.2 then out ++ [⟨3, false, []⟩] else out
set_option maxHeartbeats 4000000 in
theorem repeat_fn (s : List UInt8) (pos : Nat) (out : List OpS) (k : Nat) (l : List LevS) (p : LevS) (ho : out.length ≤ 90000) (hl : l.length ≤ 100000) (hp : 0 ≤ p.2 ∧ p.2 ≤ 1000000) (hq : pos ≤ 100000 ∧ s.length ≤ 100000) : Fn Try.prog 111 [.ptr 0 0] (rgr s pos out k l p) (.tup []) (rgr s (repP s pos) (pieceO (repO s pos out) p) k l (p.1, p.2 + 1)) := by
  by_cases h : pos < s.length
  · by_cases h0 : 0 < repK (s.getD pos 0)
    · have hr : isRep s pos = true := by unfold isRep; rw [decide_eq_true h, decide_eq_true h0]; rfl
      have c1 := op_fn s pos out k l p (repK (s.getD pos 0)) (by omega)
      have c2 := piece_fn s (pos + 1) (out ++ [⟨repK (s.getD pos 0), false, []⟩]) k l p (by simp; omega) hl hp
      unfold repP repO pieceO
      rw [hr]
      simp only [if_true]
      refine en Try.func111 (hfr := by (simp only [Try.ntmps111, go_sem, Nat.reduceSub, Nat.reduceAdd]; rfl)) ?_
      repeat' (first | exact absurd hb Bool.false_ne_true | exact absurd hb.symm Bool.false_ne_true | refine W.seq ?_ | refine W.block ?_ | (refine rgx [2] [13] ?_; intro K hK) | (refine drx [2] [13] ?_; intro K hK) | ((with_reducible refine Exists.intro [(.int .u8 42, .d (.int .i64 5)), (.int .u8 43, .d (.int .i64 6)), (.int .u8 63, .d (.int .i64 7))] ?_)) | refine oq ?_ | refine sk ?_ | (refine nk hK ?_; clear hK K) | (refine nd hK ?_; clear hK K) | refine sp ?_ | refine ex ?_ | (refine gs (fun hb => ?_) (fun hb => ?_) <;> replace hb := nb hb <;> try exact noB hb) | (refine cd (fun hb => ?_) (fun hb => ?_) <;> replace hb := nb hb <;> try exact noB hb) | (with_reducible refine Exists.intro _ (And.intro rfl ?_)) | ((with_reducible refine And.intro ?_ ?_); (focus exact sdA)) | fail)
      refine W.ent (sb [0, 1, 2] ((.ptr 0 0 :: ay 1 (i64 (repK (s.getD pos 0)) :: ay 37 []))) (rgr s pos out k l p) (hf := ?_)) ?_
      · skip
        repeat' (first | exact WkL.nil | refine WkL.cons ?_ ?_ | exact Wk.any | exact Wk.rfl | exact Wk.own rfl rfl | exact Wk.nil (by decide) rfl | refine Wk.int ?_ | refine Wk.bool ?_ | refine Wk.row ?_ ?_ ?_ ?_ | refine Wk.owns ?_ ?_ ?_ | refine Wk.sl ?_ | refine Wk.ownE ?_ ?_ | refine Wk.str ?_ | refine Wk.d ?_ | refine Wk.agg ?_ | refine Wk.tup ?_ | exact Wk.nil (by decide) rfl | rfl | omega | (simp only [Bool.not_eq_false', Bool.not_eq_true', beq_iff_eq, beq_eq_false_iff_ne, bne_iff_ne, bne_eq_false_iff_eq, ne_eq, Bool.not_false, Bool.not_true, Bool.false_eq_true, Bool.true_eq_false, wrap8, wrap16, wrap32, wrapI, wrapU, fdiv8, fdiv32, List.length_drop, List.length_take, Int.toNat_natCast, decide_eq_true_eq, decide_eq_false_iff_not] at *; omega))
        exact wkE (repK_V _)
      repeat' (first | exact absurd hb Bool.false_ne_true | exact absurd hb.symm Bool.false_ne_true | refine W.seq ?_ | refine W.block ?_ | (refine rg [] ?_; intro K hK) | (refine dr [] ?_; intro K hK) | refine cle [0, 1, 2] 0 (c1) ?_ | refine cle [0, 1, 2] 0 (c2) ?_ | refine oq ?_ | refine sk ?_ | (refine nk hK ?_; clear hK K) | (refine nd hK ?_; clear hK K) | refine sp ?_ | refine ex ?_ | (refine gs (fun hb => ?_) (fun hb => ?_) <;> replace hb := nb hb <;> try exact noB hb) | (refine cd (fun hb => ?_) (fun hb => ?_) <;> replace hb := nb hb <;> try exact noB hb) | (with_reducible refine Exists.intro _ (And.intro rfl ?_)) | ((with_reducible refine And.intro ?_ ?_); (focus exact sdA)) | fail)
      refine fin ?_
      exact .rfl
    · have hr : isRep s pos = false := by unfold isRep; rw [decide_eq_false h0, Bool.and_false]
      have c2 := piece_fn s pos out k l p (by omega) hl hp
      unfold repP repO pieceO
      rw [hr]
      simp only [Bool.false_eq_true, if_false]
      refine en Try.func111 (hfr := by (simp only [Try.ntmps111, go_sem, Nat.reduceSub, Nat.reduceAdd]; rfl)) ?_
      repeat' (first | exact absurd hb Bool.false_ne_true | exact absurd hb.symm Bool.false_ne_true | refine W.seq ?_ | refine W.block ?_ | (refine rgx [2] [13] ?_; intro K hK) | (refine drx [2] [13] ?_; intro K hK) | ((with_reducible refine Exists.intro [(.int .u8 42, .d (.int .i64 5)), (.int .u8 43, .d (.int .i64 6)), (.int .u8 63, .d (.int .i64 7))] ?_)) | refine oq ?_ | refine sk ?_ | (refine nk hK ?_; clear hK K) | (refine nd hK ?_; clear hK K) | refine sp ?_ | refine ex ?_ | (refine gs (fun hb => ?_) (fun hb => ?_) <;> replace hb := nb hb <;> try exact noB hb) | (refine cd (fun hb => ?_) (fun hb => ?_) <;> replace hb := nb hb <;> try exact noB hb) | (with_reducible refine Exists.intro _ (And.intro rfl ?_)) | ((with_reducible refine And.intro ?_ ?_); (focus exact sdA)) | fail)
      refine W.ent (sb [0, 1, 2] ((.ptr 0 0 :: ay 1 (i64 (repK (s.getD pos 0)) :: ay 37 []))) (rgr s pos out k l p) (hf := ?_)) ?_
      · skip
        repeat' (first | exact WkL.nil | refine WkL.cons ?_ ?_ | exact Wk.any | exact Wk.rfl | exact Wk.own rfl rfl | exact Wk.nil (by decide) rfl | refine Wk.int ?_ | refine Wk.bool ?_ | refine Wk.row ?_ ?_ ?_ ?_ | refine Wk.owns ?_ ?_ ?_ | refine Wk.sl ?_ | refine Wk.ownE ?_ ?_ | refine Wk.str ?_ | refine Wk.d ?_ | refine Wk.agg ?_ | refine Wk.tup ?_ | exact Wk.nil (by decide) rfl | rfl | omega | (simp only [Bool.not_eq_false', Bool.not_eq_true', beq_iff_eq, beq_eq_false_iff_ne, bne_iff_ne, bne_eq_false_iff_eq, ne_eq, Bool.not_false, Bool.not_true, Bool.false_eq_true, Bool.true_eq_false, wrap8, wrap16, wrap32, wrapI, wrapU, fdiv8, fdiv32, List.length_drop, List.length_take, Int.toNat_natCast, decide_eq_true_eq, decide_eq_false_iff_not] at *; omega))
        exact wkE (repK_V _)
      repeat' (first | exact absurd hb Bool.false_ne_true | exact absurd hb.symm Bool.false_ne_true | refine W.seq ?_ | refine W.block ?_ | (refine rg [] ?_; intro K hK) | (refine dr [] ?_; intro K hK) | refine cle [0, 1, 2] 0 (c2) ?_ | refine oq ?_ | refine sk ?_ | (refine nk hK ?_; clear hK K) | (refine nd hK ?_; clear hK K) | refine sp ?_ | refine ex ?_ | (refine gs (fun hb => ?_) (fun hb => ?_) <;> replace hb := nb hb <;> try exact noB hb) | (refine cd (fun hb => ?_) (fun hb => ?_) <;> replace hb := nb hb <;> try exact noB hb) | (with_reducible refine Exists.intro _ (And.intro rfl ?_)) | ((with_reducible refine And.intro ?_ ?_); (focus exact sdA)) | fail)
      refine fin ?_
      exact .rfl
  · have hr : isRep s pos = false := by unfold isRep; rw [decide_eq_false h]; rfl
    have c2 := piece_fn s pos out k l p (by omega) hl hp
    unfold repP repO pieceO
    rw [hr]
    simp only [Bool.false_eq_true, if_false]
    refine en Try.func111 (hfr := by (simp only [Try.ntmps111, go_sem, Nat.reduceSub, Nat.reduceAdd]; rfl)) ?_
    repeat' (first | exact absurd hb Bool.false_ne_true | exact absurd hb.symm Bool.false_ne_true | refine W.seq ?_ | refine W.block ?_ | (refine rg [] ?_; intro K hK) | (refine dr [] ?_; intro K hK) | refine cle [0, 1, 2] 0 (c2) ?_ | refine oq ?_ | refine sk ?_ | (refine nk hK ?_; clear hK K) | (refine nd hK ?_; clear hK K) | refine sp ?_ | refine ex ?_ | (refine gs (fun hb => ?_) (fun hb => ?_) <;> replace hb := nb hb <;> try exact noB hb) | (refine cd (fun hb => ?_) (fun hb => ?_) <;> replace hb := nb hb <;> try exact noB hb) | (with_reducible refine Exists.intro _ (And.intro rfl ?_)) | ((with_reducible refine And.intro ?_ ?_); (focus exact sdA)) | fail)
    refine fin ?_
    exact .rfl
def plainB (c : UInt8) : Bool := !(decide (48 ≤ c.toNat ∧ c.toNat ≤ 57) || decide (65 ≤ c.toNat ∧ c.toNat ≤ 90) || decide (97 ≤ c.toNat ∧ c.toNat ≤ 122))
theorem plain_fn (c : UInt8) : Fn Try.prog 134 [.d (u8 c)] [] (bool (plainB c)) [] := by
  refine en Try.func134 (hfr := by (simp only [Try.ntmps134, go_sem, Nat.reduceSub, Nat.reduceAdd]; rfl)) ?_
  repeat' (first | exact absurd hb Bool.false_ne_true | exact absurd hb.symm Bool.false_ne_true | refine W.seq ?_ | refine W.block ?_ | (refine rg [] ?_; intro K hK) | (refine dr [] ?_; intro K hK) | refine oq ?_ | refine sk ?_ | (refine nk hK ?_; clear hK K) | (refine nd hK ?_; clear hK K) | refine sp ?_ | refine ex ?_ | (refine gs (fun hb => ?_) (fun hb => ?_) <;> replace hb := nb hb <;> try exact noB hb) | (refine cd (fun hb => ?_) (fun hb => ?_) <;> replace hb := nb hb <;> try exact noB hb) | (with_reducible refine Exists.intro _ (And.intro rfl ?_)) | ((with_reducible refine And.intro ?_ ?_); (focus exact sdA)) | fail)
  all_goals (refine rt ?_; refine fin ?_; refine Wk.bool ?_; unfold plainB; rw [Bool.eq_iff_iff]; simp; try omega)
def classS (c : UInt8) : List SpanS := if c.toNat = 100 then [⟨48, 57⟩] else if c.toNat = 119 then [⟨48, 57⟩, ⟨65, 90⟩, ⟨95, 95⟩, ⟨97, 122⟩] else if c.toNat = 115 then [⟨9, 13⟩, ⟨32, 32⟩] else []
theorem class_is (c : UInt8) (h : classS c ≠ []) : Fn Try.prog 129 [.d (u8 c)] [] (.d (spansD (classS c))) [] := by
  unfold classS at *
  by_cases h1 : c.toNat = 100
  · rw [if_pos h1]
    refine en Try.func129 (hfr := by (simp only [Try.ntmps129, go_sem, Nat.reduceSub, Nat.reduceAdd]; rfl)) ?_
    repeat' (first | exact absurd hb Bool.false_ne_true | exact absurd hb.symm Bool.false_ne_true | refine W.seq ?_ | refine W.block ?_ | (refine rg [] ?_; intro K hK) | (refine dr [] ?_; intro K hK) | refine oq ?_ | refine sk ?_ | (refine nk hK ?_; clear hK K) | (refine nd hK ?_; clear hK K) | refine sp ?_ | refine ex ?_ | (refine gs (fun hb => ?_) (fun hb => ?_) <;> replace hb := nb hb <;> try exact noB hb) | (refine cd (fun hb => ?_) (fun hb => ?_) <;> replace hb := nb hb <;> try exact noB hb) | (with_reducible refine Exists.intro _ (And.intro rfl ?_)) | ((with_reducible refine And.intro ?_ ?_); (focus exact sdA)) | fail)
    all_goals (refine rt ?_; refine fin ?_; exact wqA)
  rw [if_neg h1] at *
  by_cases h2 : c.toNat = 119
  · rw [if_pos h2]
    refine en Try.func129 (hfr := by (simp only [Try.ntmps129, go_sem, Nat.reduceSub, Nat.reduceAdd]; rfl)) ?_
    repeat' (first | exact absurd hb Bool.false_ne_true | exact absurd hb.symm Bool.false_ne_true | refine W.seq ?_ | refine W.block ?_ | (refine rg [] ?_; intro K hK) | (refine dr [] ?_; intro K hK) | refine oq ?_ | refine sk ?_ | (refine nk hK ?_; clear hK K) | (refine nd hK ?_; clear hK K) | refine sp ?_ | refine ex ?_ | (refine gs (fun hb => ?_) (fun hb => ?_) <;> replace hb := nb hb <;> try exact noB hb) | (refine cd (fun hb => ?_) (fun hb => ?_) <;> replace hb := nb hb <;> try exact noB hb) | (with_reducible refine Exists.intro _ (And.intro rfl ?_)) | ((with_reducible refine And.intro ?_ ?_); (focus exact sdA)) | fail)
    all_goals (refine rt ?_; refine fin ?_; exact wqA)
  rw [if_neg h2] at *
  by_cases h3 : c.toNat = 115
  · rw [if_pos h3]
    refine en Try.func129 (hfr := by (simp only [Try.ntmps129, go_sem, Nat.reduceSub, Nat.reduceAdd]; rfl)) ?_
    repeat' (first | exact absurd hb Bool.false_ne_true | exact absurd hb.symm Bool.false_ne_true | refine W.seq ?_ | refine W.block ?_ | (refine rg [] ?_; intro K hK) | (refine dr [] ?_; intro K hK) | refine oq ?_ | refine sk ?_ | (refine nk hK ?_; clear hK K) | (refine nd hK ?_; clear hK K) | refine sp ?_ | refine ex ?_ | (refine gs (fun hb => ?_) (fun hb => ?_) <;> replace hb := nb hb <;> try exact noB hb) | (refine cd (fun hb => ?_) (fun hb => ?_) <;> replace hb := nb hb <;> try exact noB hb) | (with_reducible refine Exists.intro _ (And.intro rfl ?_)) | ((with_reducible refine And.intro ?_ ?_); (focus exact sdA)) | fail)
    all_goals (refine rt ?_; refine fin ?_; exact wqA)
  rw [if_neg h3] at h
  exact absurd rfl h
theorem class_no (c : UInt8) (h : classS c = []) : Fn Try.prog 129 [.d (u8 c)] [] .nil [] := by
  unfold classS at h
  by_cases h1 : c.toNat = 100
  · rw [if_pos h1] at h; cases h
  rw [if_neg h1] at h
  by_cases h2 : c.toNat = 119
  · rw [if_pos h2] at h; cases h
  rw [if_neg h2] at h
  by_cases h3 : c.toNat = 115
  · rw [if_pos h3] at h; cases h
  refine en Try.func129 (hfr := by (simp only [Try.ntmps129, go_sem, Nat.reduceSub, Nat.reduceAdd]; rfl)) ?_
  repeat' (first | exact absurd hb Bool.false_ne_true | exact absurd hb.symm Bool.false_ne_true | refine W.seq ?_ | refine W.block ?_ | (refine rg [] ?_; intro K hK) | (refine dr [] ?_; intro K hK) | refine oq ?_ | refine sk ?_ | (refine nk hK ?_; clear hK K) | (refine nd hK ?_; clear hK K) | refine sp ?_ | refine ex ?_ | (refine gs (fun hb => ?_) (fun hb => ?_) <;> replace hb := nb hb <;> try exact noB hb) | (refine cd (fun hb => ?_) (fun hb => ?_) <;> replace hb := nb hb <;> try exact noB hb) | (with_reducible refine Exists.intro _ (And.intro rfl ?_)) | ((with_reducible refine And.intro ?_ ?_); (focus exact sdA)) | fail)
  all_goals (refine rt ?_; refine fin ?_; exact wqA)
/-- What a byte behind a backslash stands for, and is it one of these? -/
def escO (c : UInt8) : UInt8 := if c.toNat = 110 then 10 else if c.toNat = 116 then 9 else if c.toNat = 114 then 13 else c
def escI (c : UInt8) : Bool := decide (c.toNat = 110 ∨ c.toNat = 116 ∨ c.toNat = 114)
def escS (s : List UInt8) (pos : Nat) : UInt8 × Bool × Nat := if pos < s.length ∧ (escI (s.getD pos 0) = true ∨ plainB (s.getD pos 0) = true) then (escO (s.getD pos 0), true, pos + 1) else (0, false, pos)
theorem beqI_t {a b : Nat} (h : a = b) : ((a : Int) == (b : Int)) = true := by subst h; simp
theorem beqI_f {a b : Nat} (h : ¬ a = b) : ((a : Int) == (b : Int)) = false := by rw [beq_eq_false_iff_ne]; omega
set_option maxHeartbeats 4000000 in
theorem esc_fn (s : List UInt8) (pos : Nat) (out : List OpS) (k : Nat) (l : List LevS) (p : LevS) (hq : pos ≤ 100000 ∧ s.length ≤ 100000) : Fn Try.prog 130 [.ptr 0 0] (rgr s pos out k l p) (.tup [.d (u8 (escS s pos).1), bool (escS s pos).2.1]) (rgr s (escS s pos).2.2 out k l p) := by
  unfold escS
  by_cases h : pos < s.length
  · have c1 := plain_fn (s.getD pos 0)
    by_cases h1 : (s.getD pos 0).toNat = 110
    · have e1 : (((s.getD pos 0).toNat : Int) == 110) = true := beqI_t h1
      have hi : escI (s.getD pos 0) = true := decide_eq_true (.inl h1)
      have ho : escO (s.getD pos 0) = 10 := if_pos h1
      rw [if_pos ⟨h, .inl hi⟩, ho]
      refine en Try.func130 (hfr := by (simp only [Try.ntmps130, go_sem, Nat.reduceSub, Nat.reduceAdd]; rfl)) ?_
      repeat' (first | exact absurd hb Bool.false_ne_true | exact absurd hb.symm Bool.false_ne_true | refine W.seq ?_ | refine W.block ?_ | (refine rgx [5] [] ?_; intro K hK) | (refine drx [5] [] ?_; intro K hK) | refine oq ?_ | refine sk ?_ | (refine nk hK ?_; clear hK K) | (refine nd hK ?_; clear hK K) | refine sp ?_ | refine ex ?_ | (refine gs (fun hb => ?_) (fun hb => ?_) <;> replace hb := nb hb <;> try exact noB hb) | (refine cd (fun hb => ?_) (fun hb => ?_) <;> replace hb := nb hb <;> try exact noB hb) | (with_reducible refine Exists.intro _ (And.intro rfl ?_)) | ((with_reducible refine And.intro ?_ ?_); (focus exact sdA)) | fail)
      simp only [e1, if_true, Bool.true_or]
      repeat' (first | exact absurd hb Bool.false_ne_true | exact absurd hb.symm Bool.false_ne_true | refine W.seq ?_ | refine W.block ?_ | (refine rg [] ?_; intro K hK) | (refine dr [] ?_; intro K hK) | refine cl (c1) ?_ | refine oq ?_ | refine sk ?_ | (refine nk hK ?_; clear hK K) | (refine nd hK ?_; clear hK K) | refine sp ?_ | refine ex ?_ | (refine gs (fun hb => ?_) (fun hb => ?_) <;> replace hb := nb hb <;> try exact noB hb) | (refine cd (fun hb => ?_) (fun hb => ?_) <;> replace hb := nb hb <;> try exact noB hb) | (with_reducible refine Exists.intro _ (And.intro rfl ?_)) | ((with_reducible refine And.intro ?_ ?_); (focus exact sdA)) | fail)
      all_goals (refine rt ?_; refine fin ?_; exact wqA)
    have e1 : (((s.getD pos 0).toNat : Int) == 110) = false := beqI_f h1
    by_cases h2 : (s.getD pos 0).toNat = 116
    · have e2 : (((s.getD pos 0).toNat : Int) == 116) = true := beqI_t h2
      have hi : escI (s.getD pos 0) = true := decide_eq_true (.inr (.inl h2))
      have ho : escO (s.getD pos 0) = 9 := by unfold escO; rw [if_neg h1, if_pos h2]
      rw [if_pos ⟨h, .inl hi⟩, ho]
      refine en Try.func130 (hfr := by (simp only [Try.ntmps130, go_sem, Nat.reduceSub, Nat.reduceAdd]; rfl)) ?_
      repeat' (first | exact absurd hb Bool.false_ne_true | exact absurd hb.symm Bool.false_ne_true | refine W.seq ?_ | refine W.block ?_ | (refine rgx [5] [] ?_; intro K hK) | (refine drx [5] [] ?_; intro K hK) | refine oq ?_ | refine sk ?_ | (refine nk hK ?_; clear hK K) | (refine nd hK ?_; clear hK K) | refine sp ?_ | refine ex ?_ | (refine gs (fun hb => ?_) (fun hb => ?_) <;> replace hb := nb hb <;> try exact noB hb) | (refine cd (fun hb => ?_) (fun hb => ?_) <;> replace hb := nb hb <;> try exact noB hb) | (with_reducible refine Exists.intro _ (And.intro rfl ?_)) | ((with_reducible refine And.intro ?_ ?_); (focus exact sdA)) | fail)
      simp only [e1, e2, if_true, if_false, Bool.false_eq_true, Bool.true_or, Bool.false_or]
      repeat' (first | exact absurd hb Bool.false_ne_true | exact absurd hb.symm Bool.false_ne_true | refine W.seq ?_ | refine W.block ?_ | (refine rg [] ?_; intro K hK) | (refine dr [] ?_; intro K hK) | refine cl (c1) ?_ | refine oq ?_ | refine sk ?_ | (refine nk hK ?_; clear hK K) | (refine nd hK ?_; clear hK K) | refine sp ?_ | refine ex ?_ | (refine gs (fun hb => ?_) (fun hb => ?_) <;> replace hb := nb hb <;> try exact noB hb) | (refine cd (fun hb => ?_) (fun hb => ?_) <;> replace hb := nb hb <;> try exact noB hb) | (with_reducible refine Exists.intro _ (And.intro rfl ?_)) | ((with_reducible refine And.intro ?_ ?_); (focus exact sdA)) | fail)
      all_goals (refine rt ?_; refine fin ?_; exact wqA)
    have e2 : (((s.getD pos 0).toNat : Int) == 116) = false := beqI_f h2
    by_cases h3 : (s.getD pos 0).toNat = 114
    · have e3 : (((s.getD pos 0).toNat : Int) == 114) = true := beqI_t h3
      have hi : escI (s.getD pos 0) = true := decide_eq_true (.inr (.inr h3))
      have ho : escO (s.getD pos 0) = 13 := by unfold escO; rw [if_neg h1, if_neg h2, if_pos h3]
      rw [if_pos ⟨h, .inl hi⟩, ho]
      refine en Try.func130 (hfr := by (simp only [Try.ntmps130, go_sem, Nat.reduceSub, Nat.reduceAdd]; rfl)) ?_
      repeat' (first | exact absurd hb Bool.false_ne_true | exact absurd hb.symm Bool.false_ne_true | refine W.seq ?_ | refine W.block ?_ | (refine rgx [5] [] ?_; intro K hK) | (refine drx [5] [] ?_; intro K hK) | refine oq ?_ | refine sk ?_ | (refine nk hK ?_; clear hK K) | (refine nd hK ?_; clear hK K) | refine sp ?_ | refine ex ?_ | (refine gs (fun hb => ?_) (fun hb => ?_) <;> replace hb := nb hb <;> try exact noB hb) | (refine cd (fun hb => ?_) (fun hb => ?_) <;> replace hb := nb hb <;> try exact noB hb) | (with_reducible refine Exists.intro _ (And.intro rfl ?_)) | ((with_reducible refine And.intro ?_ ?_); (focus exact sdA)) | fail)
      simp only [e1, e2, e3, if_true, if_false, Bool.false_eq_true, Bool.true_or, Bool.false_or]
      repeat' (first | exact absurd hb Bool.false_ne_true | exact absurd hb.symm Bool.false_ne_true | refine W.seq ?_ | refine W.block ?_ | (refine rg [] ?_; intro K hK) | (refine dr [] ?_; intro K hK) | refine cl (c1) ?_ | refine oq ?_ | refine sk ?_ | (refine nk hK ?_; clear hK K) | (refine nd hK ?_; clear hK K) | refine sp ?_ | refine ex ?_ | (refine gs (fun hb => ?_) (fun hb => ?_) <;> replace hb := nb hb <;> try exact noB hb) | (refine cd (fun hb => ?_) (fun hb => ?_) <;> replace hb := nb hb <;> try exact noB hb) | (with_reducible refine Exists.intro _ (And.intro rfl ?_)) | ((with_reducible refine And.intro ?_ ?_); (focus exact sdA)) | fail)
      all_goals (refine rt ?_; refine fin ?_; exact wqA)
    have e3 : (((s.getD pos 0).toNat : Int) == 114) = false := beqI_f h3
    have hi : escI (s.getD pos 0) = false := decide_eq_false (by omega)
    have ho : escO (s.getD pos 0) = s.getD pos 0 := by unfold escO; rw [if_neg h1, if_neg h2, if_neg h3]
    cases hp : plainB (s.getD pos 0) with
    | true =>
      rw [hp] at c1
      rw [if_pos ⟨h, .inr rfl⟩, ho]
      refine en Try.func130 (hfr := by (simp only [Try.ntmps130, go_sem, Nat.reduceSub, Nat.reduceAdd]; rfl)) ?_
      repeat' (first | exact absurd hb Bool.false_ne_true | exact absurd hb.symm Bool.false_ne_true | refine W.seq ?_ | refine W.block ?_ | (refine rgx [5] [] ?_; intro K hK) | (refine drx [5] [] ?_; intro K hK) | refine oq ?_ | refine sk ?_ | (refine nk hK ?_; clear hK K) | (refine nd hK ?_; clear hK K) | refine sp ?_ | refine ex ?_ | (refine gs (fun hb => ?_) (fun hb => ?_) <;> replace hb := nb hb <;> try exact noB hb) | (refine cd (fun hb => ?_) (fun hb => ?_) <;> replace hb := nb hb <;> try exact noB hb) | (with_reducible refine Exists.intro _ (And.intro rfl ?_)) | ((with_reducible refine And.intro ?_ ?_); (focus exact sdA)) | fail)
      simp only [e1, e2, e3, if_false, Bool.false_eq_true, Bool.or_self]
      repeat' (first | exact absurd hb Bool.false_ne_true | exact absurd hb.symm Bool.false_ne_true | refine W.seq ?_ | refine W.block ?_ | (refine rg [] ?_; intro K hK) | (refine dr [] ?_; intro K hK) | refine cl (c1) ?_ | refine oq ?_ | refine sk ?_ | (refine nk hK ?_; clear hK K) | (refine nd hK ?_; clear hK K) | refine sp ?_ | refine ex ?_ | (refine gs (fun hb => ?_) (fun hb => ?_) <;> replace hb := nb hb <;> try exact noB hb) | (refine cd (fun hb => ?_) (fun hb => ?_) <;> replace hb := nb hb <;> try exact noB hb) | (with_reducible refine Exists.intro _ (And.intro rfl ?_)) | ((with_reducible refine And.intro ?_ ?_); (focus exact sdA)) | fail)
      all_goals (refine rt ?_; refine fin ?_; exact wqA)
    | false =>
      rw [hp] at c1
      rw [if_neg (fun h' => by rcases h'.2 with h' | h'; · rw [hi] at h'; cases h'
                               · cases h')]
      refine en Try.func130 (hfr := by (simp only [Try.ntmps130, go_sem, Nat.reduceSub, Nat.reduceAdd]; rfl)) ?_
      repeat' (first | exact absurd hb Bool.false_ne_true | exact absurd hb.symm Bool.false_ne_true | refine W.seq ?_ | refine W.block ?_ | (refine rgx [5] [] ?_; intro K hK) | (refine drx [5] [] ?_; intro K hK) | refine oq ?_ | refine sk ?_ | (refine nk hK ?_; clear hK K) | (refine nd hK ?_; clear hK K) | refine sp ?_ | refine ex ?_ | (refine gs (fun hb => ?_) (fun hb => ?_) <;> replace hb := nb hb <;> try exact noB hb) | (refine cd (fun hb => ?_) (fun hb => ?_) <;> replace hb := nb hb <;> try exact noB hb) | (with_reducible refine Exists.intro _ (And.intro rfl ?_)) | ((with_reducible refine And.intro ?_ ?_); (focus exact sdA)) | fail)
      simp only [e1, e2, e3, if_false, Bool.false_eq_true, Bool.or_self]
      repeat' (first | exact absurd hb Bool.false_ne_true | exact absurd hb.symm Bool.false_ne_true | refine W.seq ?_ | refine W.block ?_ | (refine rg [] ?_; intro K hK) | (refine dr [] ?_; intro K hK) | refine cl (c1) ?_ | refine oq ?_ | refine sk ?_ | (refine nk hK ?_; clear hK K) | (refine nd hK ?_; clear hK K) | refine sp ?_ | refine ex ?_ | (refine gs (fun hb => ?_) (fun hb => ?_) <;> replace hb := nb hb <;> try exact noB hb) | (refine cd (fun hb => ?_) (fun hb => ?_) <;> replace hb := nb hb <;> try exact noB hb) | (with_reducible refine Exists.intro _ (And.intro rfl ?_)) | ((with_reducible refine And.intro ?_ ?_); (focus exact sdA)) | fail)
      all_goals (refine rt ?_; refine fin ?_; exact wqA)
  · rw [if_neg (fun h' => h h'.1)]
    refine en Try.func130 (hfr := by (simp only [Try.ntmps130, go_sem, Nat.reduceSub, Nat.reduceAdd]; rfl)) ?_
    repeat' (first | exact absurd hb Bool.false_ne_true | exact absurd hb.symm Bool.false_ne_true | refine W.seq ?_ | refine W.block ?_ | (refine rg [] ?_; intro K hK) | (refine dr [] ?_; intro K hK) | refine oq ?_ | refine sk ?_ | (refine nk hK ?_; clear hK K) | (refine nd hK ?_; clear hK K) | refine sp ?_ | refine ex ?_ | (refine gs (fun hb => ?_) (fun hb => ?_) <;> replace hb := nb hb <;> try exact noB hb) | (refine cd (fun hb => ?_) (fun hb => ?_) <;> replace hb := nb hb <;> try exact noB hb) | (with_reducible refine Exists.intro _ (And.intro rfl ?_)) | ((with_reducible refine And.intro ?_ ?_); (focus exact sdA)) | fail)
    all_goals (refine rt ?_; refine fin ?_; exact wqA)
/-- A byte of a set. -/
def oneS (s : List UInt8) (pos : Nat) : UInt8 × Bool × Nat :=
  if pos < s.length then (if (s.getD pos 0).toNat = 92 then escS s (pos + 1) else if (s.getD pos 0).toNat = 93 ∨ (s.getD pos 0).toNat = 45 ∨ (s.getD pos 0).toNat = 94 then (0, false, pos) else (s.getD pos 0, true, pos + 1)) else (0, false, pos)
set_option maxHeartbeats 4000000 in
theorem one_fn (s : List UInt8) (pos : Nat) (out : List OpS) (k : Nat) (l : List LevS) (p : LevS) (hq : pos ≤ 99999 ∧ s.length ≤ 100000) : Fn Try.prog 133 [.ptr 0 0] (rgr s pos out k l p) (.tup [.d (u8 (oneS s pos).1), bool (oneS s pos).2.1]) (rgr s (oneS s pos).2.2 out k l p) := by
  unfold oneS
  by_cases h : pos < s.length
  · rw [if_pos h]
    by_cases h1 : (s.getD pos 0).toNat = 92
    · rw [if_pos h1]
      have c1 := esc_fn s (pos + 1) out k l p (by omega)
      refine en Try.func133 (hfr := by (simp only [Try.ntmps133, go_sem, Nat.reduceSub, Nat.reduceAdd]; rfl)) ?_
      repeat' (first | exact absurd hb Bool.false_ne_true | exact absurd hb.symm Bool.false_ne_true | refine W.seq ?_ | refine W.block ?_ | (refine rg [] ?_; intro K hK) | (refine dr [] ?_; intro K hK) | refine cle [0, 1, 2] 0 (c1) ?_ | refine oq ?_ | refine sk ?_ | (refine nk hK ?_; clear hK K) | (refine nd hK ?_; clear hK K) | refine sp ?_ | refine ex ?_ | (refine gs (fun hb => ?_) (fun hb => ?_) <;> replace hb := nb hb <;> try exact noB hb) | (refine cd (fun hb => ?_) (fun hb => ?_) <;> replace hb := nb hb <;> try exact noB hb) | (with_reducible refine Exists.intro _ (And.intro rfl ?_)) | ((with_reducible refine And.intro ?_ ?_); (focus exact sdA)) | fail)
      all_goals (refine rt ?_; refine fin ?_; exact wqA)
    rw [if_neg h1]
    by_cases h2 : (s.getD pos 0).toNat = 93 ∨ (s.getD pos 0).toNat = 45 ∨ (s.getD pos 0).toNat = 94
    · rw [if_pos h2]
      have c1 := esc_fn s (pos + 1) out k l p (by omega)
      refine en Try.func133 (hfr := by (simp only [Try.ntmps133, go_sem, Nat.reduceSub, Nat.reduceAdd]; rfl)) ?_
      repeat' (first | exact absurd hb Bool.false_ne_true | exact absurd hb.symm Bool.false_ne_true | refine W.seq ?_ | refine W.block ?_ | (refine rg [] ?_; intro K hK) | (refine dr [] ?_; intro K hK) | refine cle [0, 1, 2] 0 (c1) ?_ | refine oq ?_ | refine sk ?_ | (refine nk hK ?_; clear hK K) | (refine nd hK ?_; clear hK K) | refine sp ?_ | refine ex ?_ | (refine gs (fun hb => ?_) (fun hb => ?_) <;> replace hb := nb hb <;> try exact noB hb) | (refine cd (fun hb => ?_) (fun hb => ?_) <;> replace hb := nb hb <;> try exact noB hb) | (with_reducible refine Exists.intro _ (And.intro rfl ?_)) | ((with_reducible refine And.intro ?_ ?_); (focus exact sdA)) | fail)
      all_goals (refine rt ?_; refine fin ?_; exact wqA)
    · rw [if_neg h2]
      have c1 := esc_fn s (pos + 1) out k l p (by omega)
      refine en Try.func133 (hfr := by (simp only [Try.ntmps133, go_sem, Nat.reduceSub, Nat.reduceAdd]; rfl)) ?_
      repeat' (first | exact absurd hb Bool.false_ne_true | exact absurd hb.symm Bool.false_ne_true | refine W.seq ?_ | refine W.block ?_ | (refine rg [] ?_; intro K hK) | (refine dr [] ?_; intro K hK) | refine cle [0, 1, 2] 0 (c1) ?_ | refine oq ?_ | refine sk ?_ | (refine nk hK ?_; clear hK K) | (refine nd hK ?_; clear hK K) | refine sp ?_ | refine ex ?_ | (refine gs (fun hb => ?_) (fun hb => ?_) <;> replace hb := nb hb <;> try exact noB hb) | (refine cd (fun hb => ?_) (fun hb => ?_) <;> replace hb := nb hb <;> try exact noB hb) | (with_reducible refine Exists.intro _ (And.intro rfl ?_)) | ((with_reducible refine And.intro ?_ ?_); (focus exact sdA)) | fail)
      all_goals (refine rt ?_; refine fin ?_; exact wqA)
  · rw [if_neg h]
    refine en Try.func133 (hfr := by (simp only [Try.ntmps133, go_sem, Nat.reduceSub, Nat.reduceAdd]; rfl)) ?_
    repeat' (first | exact absurd hb Bool.false_ne_true | exact absurd hb.symm Bool.false_ne_true | refine W.seq ?_ | refine W.block ?_ | (refine rg [] ?_; intro K hK) | (refine dr [] ?_; intro K hK) | refine oq ?_ | refine sk ?_ | (refine nk hK ?_; clear hK K) | (refine nd hK ?_; clear hK K) | refine sp ?_ | refine ex ?_ | (refine gs (fun hb => ?_) (fun hb => ?_) <;> replace hb := nb hb <;> try exact noB hb) | (refine cd (fun hb => ?_) (fun hb => ?_) <;> replace hb := nb hb <;> try exact noB hb) | (with_reducible refine Exists.intro _ (And.intro rfl ?_)) | ((with_reducible refine And.intro ?_ ?_); (focus exact sdA)) | fail)
    all_goals (refine rt ?_; refine fin ?_; exact wqA)
end Go.Proofs.Ytgebfcdcpmmgnaa.Vs
