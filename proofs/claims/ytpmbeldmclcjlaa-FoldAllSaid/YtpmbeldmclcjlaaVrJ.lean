/- records: an Outcome's bytes; records: a Point's bytes; records: the document's bytes. -/
import Derived.Test.YtpmbeldmclcjlaaVrI
import Derived.Test.YtpmbeldmclcjlaaVrA
set_option linter.unusedVariables false
set_option linter.unusedSimpArgs false
namespace Go.Proofs.Ytpmbeldmclcjlaa.Vs
open Go.RowKit
set_option maxRecDepth 100000
/-- An Outcome's bytes, up to the i-th number. -/
def RecS.o3 (r : RecS) : Nat → List UInt8
  | 0 => [3]
  | 1 => [3] ++ numB r.vis.toNat 2
  | 2 => ([3] ++ numB r.vis.toNat 2) ++ numB (r.to + 3).toNat 1
  | 3 => (([3] ++ numB r.vis.toNat 2) ++ numB (r.to + 3).toNat 1) ++ numB r.ofs.toNat 4
  | _ => ((([3] ++ numB r.vis.toNat 2) ++ numB (r.to + 3).toNat 1) ++ numB r.ofs.toNat 4) ++ numB (r.vr + 1).toNat 1
set_option maxHeartbeats 4000000 in
theorem put_fn3 (r : RecS) (hk : r.kind = 3) (h : r.may) : Fn Try.prog 23 [r.v] [] (.tup [bytes (r.o3 4 ++ txtB r.value), i64 0]) [] := by
  have c := may_fn r
  rw [decide_eq_true h] at c
  have hm := ((may_iff3 r hk).1 h).2.1
  have hv := ((may_iff3 r hk).1 h).1.2.2.1
  unfold RecS.rng3 inR at hm
  simp only [Nat.reduceLeDiff, true_implies, forall_const] at hm
  have c1 := fields_fn3 r hk
  have h1 : ¬ r.kind = 1 := by omega
  have n1 := number_int r.vis 2 (by decide) (by decide) (by omega) (by omega)
  have n2 := number_int (r.to + 3) 1 (by decide) (by decide) (by omega) (by omega)
  have n3 := number_int r.ofs 4 (by decide) (by decide) (by omega) (by omega)
  have n4 := number_int (r.vr + 1) 1 (by decide) (by decide) (by omega) (by omega)
  have l0 : (r.o3 0).length = 1 := rfl
  have l1 : (r.o3 1).length = 3 := by simp [RecS.o3]
  have l2 : (r.o3 2).length = 4 := by simp [RecS.o3]
  have l3 : (r.o3 3).length = 8 := by simp [RecS.o3]
  have l4 : (r.o3 4).length = 9 := by simp [RecS.o3]
  have c5 := ptext_fn r.value (r.o3 4) (by omega) (by omega)
  refine en Try.func23 (hfr := by (simp only [Try.ntmps23, go_sem, Nat.reduceSub, Nat.reduceAdd]; rfl)) ?_
  repeat' (first | exact absurd hb Bool.false_ne_true | exact absurd hb.symm Bool.false_ne_true | refine W.seq ?_ | refine W.block ?_ | (refine rgx [4] [] ?_; intro K hK) | (refine drx [4] [] ?_; intro K hK) | refine cl (c) ?_ | refine oq ?_ | refine sk ?_ | (refine nk hK ?_; clear hK K) | (refine nd hK ?_; clear hK K) | refine sp ?_ | refine ex ?_ | (refine gs (fun hb => ?_) (fun hb => ?_) <;> replace hb := nb hb <;> try exact noB hb) | (refine cd (fun hb => ?_) (fun hb => ?_) <;> replace hb := nb hb <;> try exact noB hb) | (with_reducible refine Exists.intro _ (And.intro rfl ?_)) | ((with_reducible refine And.intro ?_ ?_); (focus exact sdA)) | fail)
  refine W.ent (Ent.more 1) ?_
  repeat' (first | exact absurd hb Bool.false_ne_true | exact absurd hb.symm Bool.false_ne_true | refine W.seq ?_ | refine W.block ?_ | (refine rgx [5] [] ?_; intro K hK) | (refine drx [5] [] ?_; intro K hK) | refine cle [0, 3] 1 (c1) ?_ | refine oq ?_ | refine sk ?_ | (refine nk hK ?_; clear hK K) | (refine nd hK ?_; clear hK K) | refine sp ?_ | refine ex ?_ | (refine gs (fun hb => ?_) (fun hb => ?_) <;> replace hb := nb hb <;> try exact noB hb) | (refine cd (fun hb => ?_) (fun hb => ?_) <;> replace hb := nb hb <;> try exact noB hb) | (with_reducible refine Exists.intro _ (And.intro rfl ?_)) | ((with_reducible refine And.intro ?_ ?_); (focus exact sdA)) | fail)
  rw [show (D.int IntKind.u8 r.kind) = u8 3 by rw [hk]; rfl]
  refine W.lp (ι := Nat) (fun i => (ay 1 (.ptr 0 0 :: ay 1 (i64 0 :: .ptr 2 0 :: ay 12 (.row 3 0 4 4 :: i64 4 :: i64 i :: ay 49 []))))) (fun i => [.cells 35 r.cells, .cap 5 1 (r.o3 i).length, .cells 33 [.own 1 ((r.o3 i).map u8) 1], .cells 144 (flds3 0)]) (fun i => i ≤ 4) (fun i => 4 - i) 0 (by decide) (Ent.to ?_ rfl) ?_
  · skip
    exact wkA
  · intro i hi
    obtain rfl | rfl | rfl | rfl | rfl : i = 0 ∨ i = 1 ∨ i = 2 ∨ i = 3 ∨ i = 4 := by omega
    · skip
      repeat' (first | exact absurd hb Bool.false_ne_true | exact absurd hb.symm Bool.false_ne_true | refine W.seq ?_ | refine W.block ?_ | (refine rg [] ?_; intro K hK) | (refine dr [] ?_; intro K hK) | refine cl (n1) ?_ | refine oq ?_ | refine sk ?_ | (refine nk hK ?_; clear hK K) | (refine nd hK ?_; clear hK K) | refine sp ?_ | refine ex ?_ | (refine gs (fun hb => ?_) (fun hb => ?_) <;> replace hb := nb hb <;> try exact noB hb) | (refine cd (fun hb => ?_) (fun hb => ?_) <;> replace hb := nb hb <;> try exact noB hb) | (with_reducible refine Exists.intro _ (And.intro rfl ?_)) | ((with_reducible refine And.intro ?_ ?_); (focus exact sdA)) | fail)
      refine nx 1 (by decide) (by decide) (sb [0, 1, 2, 3] _ _ (hf := ?_))
      exact wkA
    · skip
      repeat' (first | exact absurd hb Bool.false_ne_true | exact absurd hb.symm Bool.false_ne_true | refine W.seq ?_ | refine W.block ?_ | (refine rg [] ?_; intro K hK) | (refine dr [] ?_; intro K hK) | refine cl (n2) ?_ | refine oq ?_ | refine sk ?_ | (refine nk hK ?_; clear hK K) | (refine nd hK ?_; clear hK K) | refine sp ?_ | refine ex ?_ | (refine gs (fun hb => ?_) (fun hb => ?_) <;> replace hb := nb hb <;> try exact noB hb) | (refine cd (fun hb => ?_) (fun hb => ?_) <;> replace hb := nb hb <;> try exact noB hb) | (with_reducible refine Exists.intro _ (And.intro rfl ?_)) | ((with_reducible refine And.intro ?_ ?_); (focus exact sdA)) | fail)
      refine nx 2 (by decide) (by decide) (sb [0, 1, 2, 3] _ _ (hf := ?_))
      exact wkA
    · skip
      repeat' (first | exact absurd hb Bool.false_ne_true | exact absurd hb.symm Bool.false_ne_true | refine W.seq ?_ | refine W.block ?_ | (refine rg [] ?_; intro K hK) | (refine dr [] ?_; intro K hK) | refine cl (n3) ?_ | refine oq ?_ | refine sk ?_ | (refine nk hK ?_; clear hK K) | (refine nd hK ?_; clear hK K) | refine sp ?_ | refine ex ?_ | (refine gs (fun hb => ?_) (fun hb => ?_) <;> replace hb := nb hb <;> try exact noB hb) | (refine cd (fun hb => ?_) (fun hb => ?_) <;> replace hb := nb hb <;> try exact noB hb) | (with_reducible refine Exists.intro _ (And.intro rfl ?_)) | ((with_reducible refine And.intro ?_ ?_); (focus exact sdA)) | fail)
      refine nx 3 (by decide) (by decide) (sb [0, 1, 2, 3] _ _ (hf := ?_))
      exact wkA
    · skip
      repeat' (first | exact absurd hb Bool.false_ne_true | exact absurd hb.symm Bool.false_ne_true | refine W.seq ?_ | refine W.block ?_ | (refine rg [] ?_; intro K hK) | (refine dr [] ?_; intro K hK) | refine cl (n4) ?_ | refine oq ?_ | refine sk ?_ | (refine nk hK ?_; clear hK K) | (refine nd hK ?_; clear hK K) | refine sp ?_ | refine ex ?_ | (refine gs (fun hb => ?_) (fun hb => ?_) <;> replace hb := nb hb <;> try exact noB hb) | (refine cd (fun hb => ?_) (fun hb => ?_) <;> replace hb := nb hb <;> try exact noB hb) | (with_reducible refine Exists.intro _ (And.intro rfl ?_)) | ((with_reducible refine And.intro ?_ ?_); (focus exact sdA)) | fail)
      refine nx 4 (by decide) (by decide) (sb [0, 1, 2, 3] _ _ (hf := ?_))
      exact wkA
    · skip
      repeat' (first | exact absurd hb Bool.false_ne_true | exact absurd hb.symm Bool.false_ne_true | refine W.seq ?_ | refine W.block ?_ | (refine rg [] ?_; intro K hK) | (refine dr [] ?_; intro K hK) | refine cle [2, 1] 0 (c5) ?_ | refine oq ?_ | refine sk ?_ | (refine nk hK ?_; clear hK K) | (refine nd hK ?_; clear hK K) | refine sp ?_ | refine ex ?_ | (refine gs (fun hb => ?_) (fun hb => ?_) <;> replace hb := nb hb <;> try exact noB hb) | (refine cd (fun hb => ?_) (fun hb => ?_) <;> replace hb := nb hb <;> try exact noB hb) | (with_reducible refine Exists.intro _ (And.intro rfl ?_)) | ((with_reducible refine And.intro ?_ ?_); (focus exact sdA)) | fail)
      all_goals (refine rt ?_; refine fin ?_; exact wqA)
/-- A Point's bytes, up to the i-th number. -/
def RecS.o1 (r : RecS) : Nat → List UInt8
  | 0 => [1]
  | 1 => [1] ++ numB (r.step + 3).toNat 1
  | 2 => ([1] ++ numB (r.step + 3).toNat 1) ++ numB r.visit.toNat 2
  | 3 => (([1] ++ numB (r.step + 3).toNat 1) ++ numB r.visit.toNat 2) ++ numB r.tries.toNat 1
  | _ => ((([1] ++ numB (r.step + 3).toNat 1) ++ numB r.visit.toNat 2) ++ numB r.tries.toNat 1) ++ numB r.off.toNat 4
def txtsB (l : List (List UInt8)) : List UInt8 := (l.map txtB).flatten
theorem txtsB_len (l : List (List UInt8)) (h : l.all (fun b => decide (b.length ≤ 100)) = true) : (txtsB l).length ≤ 102 * l.length := by
  induction l with
  | nil => simp [txtsB]
  | cons b l ih =>
    rw [List.all_cons, Bool.and_eq_true, decide_eq_true_eq] at h
    have := ih h.2
    simp only [txtsB, List.map_cons, List.flatten_cons, List.length_append, List.length_cons, txtB, numB_len] at *
    omega
theorem txtsB_take (l : List (List UInt8)) (i : Nat) (h : i < l.length) : txtsB (l.take (i + 1)) = txtsB (l.take i) ++ txtB (l.getD i []) := by
  unfold txtsB
  rw [List.take_add_one, List.map_append, List.flatten_append, List.getD_eq_getElem?_getD, List.getElem?_eq_getElem h]
  simp
theorem all_take (l : List (List UInt8)) (i : Nat) (h : l.all (fun b => decide (b.length ≤ 100)) = true) : (l.take i).all (fun b => decide (b.length ≤ 100)) = true := by
  rw [List.all_eq_true] at *
  exact fun x hx => h x (List.mem_of_mem_take hx)
theorem all_getD (l : List (List UInt8)) (i : Nat) (h : l.all (fun b => decide (b.length ≤ 100)) = true) : (l.getD i []).length ≤ 100 := by
  rw [List.getD_eq_getElem?_getD]
  rcases Nat.lt_or_ge i l.length with hi | hi
  · rw [List.getElem?_eq_getElem hi]
    have := List.all_eq_true.1 h _ (List.getElem_mem hi)
    exact of_decide_eq_true this
  · rw [List.getElem?_eq_none hi]
    decide
def RecS.hd1 (r : RecS) : List UInt8 := r.o1 4 ++ [UInt8.ofNat r.vars.length]
set_option maxHeartbeats 4000000 in
theorem put_fn1 (r : RecS) (hk : r.kind = 1) (h : r.may) : Fn Try.prog 23 [r.v] [] (.tup [bytes (r.hd1 ++ txtsB r.vars), i64 0]) [] := by
  have c := may_fn r
  rw [decide_eq_true h] at c
  have hm := ((may_iff1 r hk).1 h).2.1
  have hv := ((may_iff1 r hk).1 h).1.2.1
  have ha := ((may_iff1 r hk).1 h).2.2
  unfold RecS.rng1 inR at hm
  simp only [Nat.reduceLeDiff, true_implies, forall_const] at hm
  have c1 := fields_fn1 r hk
  have h3 : ¬ r.kind = 3 := by omega
  have n1 := number_int (r.step + 3) 1 (by decide) (by decide) (by omega) (by omega)
  have n2 := number_int r.visit 2 (by decide) (by decide) (by omega) (by omega)
  have n3 := number_int r.tries 1 (by decide) (by decide) (by omega) (by omega)
  have n4 := number_int r.off 4 (by decide) (by decide) (by omega) (by omega)
  have l0 : (r.o1 0).length = 1 := rfl
  have l1 : (r.o1 1).length = 2 := by simp [RecS.o1]
  have l2 : (r.o1 2).length = 4 := by simp [RecS.o1]
  have l3 : (r.o1 3).length = 5 := by simp [RecS.o1]
  have l4 : (r.o1 4).length = 9 := by simp [RecS.o1]
  have l5 : r.hd1.length = 10 := by simp [RecS.hd1, l4]
  refine en Try.func23 (hfr := by (simp only [Try.ntmps23, go_sem, Nat.reduceSub, Nat.reduceAdd]; rfl)) ?_
  repeat' (first | exact absurd hb Bool.false_ne_true | exact absurd hb.symm Bool.false_ne_true | refine W.seq ?_ | refine W.block ?_ | (refine rgx [4] [] ?_; intro K hK) | (refine drx [4] [] ?_; intro K hK) | refine cl (c) ?_ | refine oq ?_ | refine sk ?_ | (refine nk hK ?_; clear hK K) | (refine nd hK ?_; clear hK K) | refine sp ?_ | refine ex ?_ | (refine gs (fun hb => ?_) (fun hb => ?_) <;> replace hb := nb hb <;> try exact noB hb) | (refine cd (fun hb => ?_) (fun hb => ?_) <;> replace hb := nb hb <;> try exact noB hb) | (with_reducible refine Exists.intro _ (And.intro rfl ?_)) | ((with_reducible refine And.intro ?_ ?_); (focus exact sdA)) | fail)
  refine W.ent (Ent.more 1) ?_
  repeat' (first | exact absurd hb Bool.false_ne_true | exact absurd hb.symm Bool.false_ne_true | refine W.seq ?_ | refine W.block ?_ | (refine rgx [5] [] ?_; intro K hK) | (refine drx [5] [] ?_; intro K hK) | refine cle [0, 3] 1 (c1) ?_ | refine oq ?_ | refine sk ?_ | (refine nk hK ?_; clear hK K) | (refine nd hK ?_; clear hK K) | refine sp ?_ | refine ex ?_ | (refine gs (fun hb => ?_) (fun hb => ?_) <;> replace hb := nb hb <;> try exact noB hb) | (refine cd (fun hb => ?_) (fun hb => ?_) <;> replace hb := nb hb <;> try exact noB hb) | (with_reducible refine Exists.intro _ (And.intro rfl ?_)) | ((with_reducible refine And.intro ?_ ?_); (focus exact sdA)) | fail)
  rw [show (D.int IntKind.u8 r.kind) = u8 1 by rw [hk]; rfl]
  refine W.lp (ι := Nat) (fun i => (ay 1 (.ptr 0 0 :: ay 1 (i64 0 :: .ptr 2 0 :: ay 12 (.row 3 0 4 4 :: i64 4 :: i64 i :: ay 49 []))))) (fun i => [.cells 35 r.cells, .cap 5 1 (r.o1 i).length, .cells 33 [.own 1 ((r.o1 i).map u8) 1], .cells 144 (flds1 0)]) (fun i => i ≤ 4) (fun i => 4 - i) 0 (by decide) (Ent.to ?_ rfl) ?_
  · skip
    exact wkA
  · intro i hi
    obtain rfl | rfl | rfl | rfl | rfl : i = 0 ∨ i = 1 ∨ i = 2 ∨ i = 3 ∨ i = 4 := by omega
    · skip
      repeat' (first | exact absurd hb Bool.false_ne_true | exact absurd hb.symm Bool.false_ne_true | refine W.seq ?_ | refine W.block ?_ | (refine rg [] ?_; intro K hK) | (refine dr [] ?_; intro K hK) | refine cl (n1) ?_ | refine oq ?_ | refine sk ?_ | (refine nk hK ?_; clear hK K) | (refine nd hK ?_; clear hK K) | refine sp ?_ | refine ex ?_ | (refine gs (fun hb => ?_) (fun hb => ?_) <;> replace hb := nb hb <;> try exact noB hb) | (refine cd (fun hb => ?_) (fun hb => ?_) <;> replace hb := nb hb <;> try exact noB hb) | (with_reducible refine Exists.intro _ (And.intro rfl ?_)) | ((with_reducible refine And.intro ?_ ?_); (focus exact sdA)) | fail)
      refine nx 1 (by decide) (by decide) (sb [0, 1, 2, 3] _ _ (hf := ?_))
      exact wkA
    · skip
      repeat' (first | exact absurd hb Bool.false_ne_true | exact absurd hb.symm Bool.false_ne_true | refine W.seq ?_ | refine W.block ?_ | (refine rg [] ?_; intro K hK) | (refine dr [] ?_; intro K hK) | refine cl (n2) ?_ | refine oq ?_ | refine sk ?_ | (refine nk hK ?_; clear hK K) | (refine nd hK ?_; clear hK K) | refine sp ?_ | refine ex ?_ | (refine gs (fun hb => ?_) (fun hb => ?_) <;> replace hb := nb hb <;> try exact noB hb) | (refine cd (fun hb => ?_) (fun hb => ?_) <;> replace hb := nb hb <;> try exact noB hb) | (with_reducible refine Exists.intro _ (And.intro rfl ?_)) | ((with_reducible refine And.intro ?_ ?_); (focus exact sdA)) | fail)
      refine nx 2 (by decide) (by decide) (sb [0, 1, 2, 3] _ _ (hf := ?_))
      exact wkA
    · skip
      repeat' (first | exact absurd hb Bool.false_ne_true | exact absurd hb.symm Bool.false_ne_true | refine W.seq ?_ | refine W.block ?_ | (refine rg [] ?_; intro K hK) | (refine dr [] ?_; intro K hK) | refine cl (n3) ?_ | refine oq ?_ | refine sk ?_ | (refine nk hK ?_; clear hK K) | (refine nd hK ?_; clear hK K) | refine sp ?_ | refine ex ?_ | (refine gs (fun hb => ?_) (fun hb => ?_) <;> replace hb := nb hb <;> try exact noB hb) | (refine cd (fun hb => ?_) (fun hb => ?_) <;> replace hb := nb hb <;> try exact noB hb) | (with_reducible refine Exists.intro _ (And.intro rfl ?_)) | ((with_reducible refine And.intro ?_ ?_); (focus exact sdA)) | fail)
      refine nx 3 (by decide) (by decide) (sb [0, 1, 2, 3] _ _ (hf := ?_))
      exact wkA
    · skip
      repeat' (first | exact absurd hb Bool.false_ne_true | exact absurd hb.symm Bool.false_ne_true | refine W.seq ?_ | refine W.block ?_ | (refine rg [] ?_; intro K hK) | (refine dr [] ?_; intro K hK) | refine cl (n4) ?_ | refine oq ?_ | refine sk ?_ | (refine nk hK ?_; clear hK K) | (refine nd hK ?_; clear hK K) | refine sp ?_ | refine ex ?_ | (refine gs (fun hb => ?_) (fun hb => ?_) <;> replace hb := nb hb <;> try exact noB hb) | (refine cd (fun hb => ?_) (fun hb => ?_) <;> replace hb := nb hb <;> try exact noB hb) | (with_reducible refine Exists.intro _ (And.intro rfl ?_)) | ((with_reducible refine And.intro ?_ ?_); (focus exact sdA)) | fail)
      refine nx 4 (by decide) (by decide) (sb [0, 1, 2, 3] _ _ (hf := ?_))
      exact wkA
    · skip
      repeat' (first | exact absurd hb Bool.false_ne_true | exact absurd hb.symm Bool.false_ne_true | refine W.seq ?_ | refine W.block ?_ | (refine rgx [14] [] ?_; intro K hK) | (refine drx [14] [] ?_; intro K hK) | refine oq ?_ | refine sk ?_ | (refine nk hK ?_; clear hK K) | (refine nd hK ?_; clear hK K) | refine sp ?_ | refine ex ?_ | (refine gs (fun hb => ?_) (fun hb => ?_) <;> replace hb := nb hb <;> try exact noB hb) | (refine cd (fun hb => ?_) (fun hb => ?_) <;> replace hb := nb hb <;> try exact noB hb) | (with_reducible refine Exists.intro _ (And.intro rfl ?_)) | ((with_reducible refine And.intro ?_ ?_); (focus exact sdA)) | fail)
      have e0 : List.map u8 (r.o1 4) ++ [D.int IntKind.u8 (r.vars.length : Int)] = (r.hd1 ++ txtsB (r.vars.take 0)).map u8 := by
        have e1 : (UInt8.ofNat r.vars.length).toNat = r.vars.length := by
          rw [UInt8.toNat_ofNat']
          omega
        simp only [RecS.hd1, txtsB, List.take_zero, List.map_nil, List.flatten_nil, List.append_nil, List.map_append, List.map_cons]
        rw [show u8 (UInt8.ofNat r.vars.length) = D.int IntKind.u8 ((UInt8.ofNat r.vars.length).toNat : Int) from rfl, e1]
      rw [e0, show (r.o1 4).length + 1 = (r.hd1 ++ txtsB (r.vars.take 0)).length by rw [List.length_append, l4, l5]; rfl]
      refine W.lp (ι := Nat) (fun i => (ay 1 (.ptr 0 0 :: ay 1 (i64 0 :: .ptr 2 0 :: ay 2 (.fn (.func 78) [] [.ptr 2 0] :: ay 31 (i64 r.kind :: ay 12 (texts r.vars :: i64 r.vars.length :: i64 i :: ay 14 []))))))) (fun i => [.cells 35 r.cells, .cap 5 1 (r.hd1 ++ txtsB (r.vars.take i)).length, .cells 33 [.own 1 ((r.hd1 ++ txtsB (r.vars.take i)).map u8) 1], .cells 144 (flds1 0)]) (fun i => i ≤ r.vars.length) (fun i => r.vars.length - i) 0 (Nat.zero_le _) (sb [0, 1, 2, 3] _ _ (hf := ?_)) ?_
      · skip
        exact wkA
      · intro i hi
        have hg := all_getD r.vars i ha
        have ht := txtsB_len (r.vars.take i) (all_take r.vars i ha)
        have hl : (r.hd1 ++ txtsB (r.vars.take i)).length ≤ 1000 := by
          rw [List.length_append, l5]
          rw [List.length_take] at ht
          omega
        have c5 := ptext_fn (r.vars.getD i []) (r.hd1 ++ txtsB (r.vars.take i)) (by omega) (by omega)
        repeat' (first | exact absurd hb Bool.false_ne_true | exact absurd hb.symm Bool.false_ne_true | refine W.seq ?_ | refine W.block ?_ | (refine rg [] ?_; intro K hK) | (refine dr [] ?_; intro K hK) | refine cle [2, 1] 0 (c5) ?_ | refine oq ?_ | refine sk ?_ | (refine nk hK ?_; clear hK K) | (refine nd hK ?_; clear hK K) | refine sp ?_ | refine ex ?_ | (refine gs (fun hb => ?_) (fun hb => ?_) <;> replace hb := nb hb <;> try exact noB hb) | (refine cd (fun hb => ?_) (fun hb => ?_) <;> replace hb := nb hb <;> try exact noB hb) | (with_reducible refine Exists.intro _ (And.intro rfl ?_)) | ((with_reducible refine And.intro ?_ ?_); (focus exact sdA)) | fail)
        · refine nx (i + 1) (by omega) (by omega) (Ent.to ?_ ?_)
          · skip
            exact wkA
          · simp only [txtsB_take r.vars i (by omega), List.append_assoc, List.length_append, Nat.add_assoc]
        · rw [List.take_of_length_le (by omega)]
          all_goals (refine rt ?_; refine fin ?_; exact wqA)
/-- A record's bytes; none if it may not be. -/
def RecS.put (r : RecS) : List UInt8 := if r.kind = 1 then r.hd1 ++ txtsB r.vars else if r.kind = 2 then r.o2 3 else r.o3 4 ++ txtB r.value
theorem put_fn (r : RecS) (h : r.may) : Fn Try.prog 23 [r.v] [] (.tup [bytes r.put, i64 0]) [] := by
  unfold RecS.put
  by_cases h1 : r.kind = 1
  · rw [if_pos h1]
    exact put_fn1 r h1 h
  by_cases h2 : r.kind = 2
  · rw [if_neg h1, if_pos h2]
    exact put_fn2 r h2 h
  rw [if_neg h1, if_neg h2]
  exact put_fn3 r (by unfold RecS.may at h; omega) h
theorem xtext_d (b : List UInt8) (hb : b.length ≤ 65535) : Fn Try.prog 92 [bytes b] [] (bytes (txtB b)) [] := (xtext_fn b hb).drop (.own rfl rfl) rfl
theorem u8_num (n : Int) (h : 0 ≤ n ∧ n < 256) : [D.int IntKind.u8 n] = (numB n.toNat 1).map u8 := by
  have e1 : (UInt8.ofNat n.toNat).toNat = n.toNat := by
    rw [UInt8.toNat_ofNat']
    omega
  have e2 : numB n.toNat 1 = [UInt8.ofNat n.toNat] := by simp [numB]
  rw [e2]
  show _ = [D.int IntKind.u8 ((UInt8.ofNat n.toNat).toNat : Int)]
  rw [e1, Int.toNat_of_nonneg h.1]
theorem xnum_d (n : Int) (k : Nat) (h0 : 0 ≤ n) (hn : n < 18446744073709551616) (h8 : k ≤ 8) : Fn Try.prog 91 [.d (.int .u64 n), i64 k] [] (bytes (numB n.toNat k)) [] := by
  have h := (xnumber_fn k n.toNat (by omega) h8).drop (r' := bytes (numB n.toNat k)) (.own rfl rfl) rfl
  rw [show (u64 (n.toNat : Nat) : V) = .d (.int .u64 n) by rw [show ((n.toNat : Nat) : Int) = n by omega]] at h
  exact h
set_option maxHeartbeats 4000000 in
theorem xput_fn2 (r : RecS) (hk : r.kind = 2) (h : r.may) : Fn Try.prog 28 [r.v] [] (bytes (r.o2 3)) [] := by
  have hm := ((may_iff2 r hk).1 h).2.1
  unfold RecS.rng2 inR at hm
  simp only [Nat.reduceLeDiff, true_implies, forall_const] at hm
  have h1 : ¬ r.kind = 1 := by omega
  have n1 := xnum_d r.vis 2 (by omega) (by omega) (by decide)
  have e0 := u8_num r.kind (by omega)
  have e1 := u8_num r.st (by omega)
  have e2 := u8_num r.try' (by omega)
  refine en Try.func28 (hfr := by (simp only [Try.ntmps28, go_sem, Nat.reduceSub, Nat.reduceAdd]; rfl)) ?_
  repeat' (first | exact absurd hb Bool.false_ne_true | exact absurd hb.symm Bool.false_ne_true | refine W.seq ?_ | refine W.block ?_ | (refine rg [] ?_; intro K hK) | (refine dr [] ?_; intro K hK) | refine cl (n1) ?_ | refine oq ?_ | refine sk ?_ | (refine nk hK ?_; clear hK K) | (refine nd hK ?_; clear hK K) | refine sp ?_ | refine ex ?_ | (refine gs (fun hb => ?_) (fun hb => ?_) <;> replace hb := nb hb <;> try exact noB hb) | (refine cd (fun hb => ?_) (fun hb => ?_) <;> replace hb := nb hb <;> try exact noB hb) | (with_reducible refine Exists.intro _ (And.intro rfl ?_)) | ((with_reducible refine And.intro ?_ ?_); (focus exact sdA)) | fail)
  rw [show D.int IntKind.u8 r.kind :: (List.map u8 (numB r.vis.toNat 2) ++ [D.int IntKind.u8 r.st, D.int IntKind.u8 r.try']) = (r.o2 3).map u8 by
    rw [hk]
    simp only [RecS.o2, List.map_append, ← e1, ← e2, List.append_assoc, List.map_cons, List.map_nil, List.cons_append, List.nil_append]
    rfl]
  all_goals (refine rt ?_; refine fin ?_; exact wqA)
set_option maxHeartbeats 4000000 in
theorem xput_fn3 (r : RecS) (hk : r.kind = 3) (h : r.may) : Fn Try.prog 28 [r.v] [] (bytes (r.o3 4 ++ txtB r.value)) [] := by
  have hm := ((may_iff3 r hk).1 h).2.1
  have hv := ((may_iff3 r hk).1 h).1.2.2.1
  unfold RecS.rng3 inR at hm
  simp only [Nat.reduceLeDiff, true_implies, forall_const] at hm
  have h1 : ¬ r.kind = 1 := by omega
  have h2 : ¬ r.kind = 2 := by omega
  have n1 := xnum_d r.vis 2 (by omega) (by omega) (by decide)
  have n2 := xnum_d r.ofs 4 (by omega) (by omega) (by decide)
  have n3 := xtext_d r.value (by omega)
  have hl : (txtB r.value).length = 2 + r.value.length := by simp [txtB]
  have e1 := u8_num (r.to + 3) (by omega)
  have e2 := u8_num (r.vr + 1) (by omega)
  refine en Try.func28 (hfr := by (simp only [Try.ntmps28, go_sem, Nat.reduceSub, Nat.reduceAdd]; rfl)) ?_
  repeat' (first | exact absurd hb Bool.false_ne_true | exact absurd hb.symm Bool.false_ne_true | refine W.seq ?_ | refine W.block ?_ | (refine rg [] ?_; intro K hK) | (refine dr [] ?_; intro K hK) | refine cl (n1) ?_ | refine cl (n2) ?_ | refine cl (n3) ?_ | refine oq ?_ | refine sk ?_ | (refine nk hK ?_; clear hK K) | (refine nd hK ?_; clear hK K) | refine sp ?_ | refine ex ?_ | (refine gs (fun hb => ?_) (fun hb => ?_) <;> replace hb := nb hb <;> try exact noB hb) | (refine cd (fun hb => ?_) (fun hb => ?_) <;> replace hb := nb hb <;> try exact noB hb) | (with_reducible refine Exists.intro _ (And.intro rfl ?_)) | ((with_reducible refine And.intro ?_ ?_); (focus exact sdA)) | fail)
  rw [show D.int IntKind.u8 r.kind :: (List.map u8 (numB r.vis.toNat 2) ++ [D.int IntKind.u8 (r.to + 3)] ++ List.map u8 (numB r.ofs.toNat 4) ++ [D.int IntKind.u8 (r.vr + 1)] ++ List.map u8 (txtB r.value)) = (r.o3 4 ++ txtB r.value).map u8 by
    rw [hk, e1, e2]
    simp only [RecS.o3, List.map_append, List.append_assoc, List.map_cons, List.map_nil, List.cons_append, List.nil_append]
    rfl]
  all_goals (refine rt ?_; refine fin ?_; exact wqA)
set_option maxHeartbeats 4000000 in
theorem xput_fn1 (r : RecS) (hk : r.kind = 1) (h : r.may) : Fn Try.prog 28 [r.v] [] (bytes (r.hd1 ++ txtsB r.vars)) [] := by
  have hm := ((may_iff1 r hk).1 h).2.1
  have hv := ((may_iff1 r hk).1 h).1.2.1
  have ha := ((may_iff1 r hk).1 h).2.2
  unfold RecS.rng1 inR at hm
  simp only [Nat.reduceLeDiff, true_implies, forall_const] at hm
  have n1 := xnum_d r.visit 2 (by omega) (by omega) (by decide)
  have n2 := xnum_d r.off 4 (by omega) (by omega) (by decide)
  have e1 := u8_num (r.step + 3) (by omega)
  have e2 := u8_num r.tries (by omega)
  refine en Try.func28 (hfr := by (simp only [Try.ntmps28, go_sem, Nat.reduceSub, Nat.reduceAdd]; rfl)) ?_
  repeat' (first | exact absurd hb Bool.false_ne_true | exact absurd hb.symm Bool.false_ne_true | refine W.seq ?_ | refine W.block ?_ | (refine rgx [15] [] ?_; intro K hK) | (refine drx [15] [] ?_; intro K hK) | refine cl (n1) ?_ | refine cl (n2) ?_ | refine oq ?_ | refine sk ?_ | (refine nk hK ?_; clear hK K) | (refine nd hK ?_; clear hK K) | refine sp ?_ | refine ex ?_ | (refine gs (fun hb => ?_) (fun hb => ?_) <;> replace hb := nb hb <;> try exact noB hb) | (refine cd (fun hb => ?_) (fun hb => ?_) <;> replace hb := nb hb <;> try exact noB hb) | (with_reducible refine Exists.intro _ (And.intro rfl ?_)) | ((with_reducible refine And.intro ?_ ?_); (focus exact sdA)) | fail)
  have l5 : r.hd1.length = 10 := by simp [RecS.hd1, RecS.o1]
  have e0 : D.int IntKind.u8 r.kind :: D.int IntKind.u8 (r.step + 3) :: (List.map u8 (numB r.visit.toNat 2) ++ [D.int IntKind.u8 r.tries] ++ List.map u8 (numB r.off.toNat 4) ++ [D.int IntKind.u8 (r.vars.length : Int)]) = (r.hd1 ++ txtsB (r.vars.take 0)).map u8 := by
    have e3 : (UInt8.ofNat r.vars.length).toNat = r.vars.length := by
      rw [UInt8.toNat_ofNat']
      omega
    rw [hk, show ∀ l : List D, D.int IntKind.u8 1 :: D.int IntKind.u8 (r.step + 3) :: l = D.int IntKind.u8 1 :: ([D.int IntKind.u8 (r.step + 3)] ++ l) from fun _ => rfl, e1, e2]
    simp only [RecS.hd1, RecS.o1, txtsB, List.take_zero, List.map_nil, List.flatten_nil, List.append_nil, List.map_append, List.map_cons, List.append_assoc, List.cons_append, List.nil_append]
    rw [show u8 (UInt8.ofNat r.vars.length) = D.int IntKind.u8 ((UInt8.ofNat r.vars.length).toNat : Int) from rfl, e3]
    rfl
  rw [e0]
  refine W.lp (ι := Nat) (fun i => (ay 1 (.ptr 0 0 :: ay 1 (.own 1 ((r.hd1 ++ txtsB (r.vars.take i)).map u8) 1 :: i64 i :: ay 5 (i64 r.kind :: ay 105 []))))) (fun i => [.cells 48 r.cells, .cap 5 1 (10 + (txtsB (r.vars.take i)).length)]) (fun i => i ≤ r.vars.length) (fun i => r.vars.length - i) 0 (Nat.zero_le _) (sb [0, 1] _ _ (hf := ?_)) ?_
  · skip
    exact wkA
  · intro i hi
    have hg := all_getD r.vars i ha
    have ht := txtsB_len (r.vars.take i) (all_take r.vars i ha)
    rw [List.length_take] at ht
    have n3 := xtext_d (r.vars.getD i []) (by omega)
    have hl : (txtB (r.vars.getD i [])).length = 2 + (r.vars.getD i []).length := by simp [txtB]
    repeat' (first | exact absurd hb Bool.false_ne_true | exact absurd hb.symm Bool.false_ne_true | refine W.seq ?_ | refine W.block ?_ | (refine rg [] ?_; intro K hK) | (refine dr [] ?_; intro K hK) | refine cl (n3) ?_ | refine oq ?_ | refine sk ?_ | (refine nk hK ?_; clear hK K) | (refine nd hK ?_; clear hK K) | refine sp ?_ | refine ex ?_ | (refine gs (fun hb => ?_) (fun hb => ?_) <;> replace hb := nb hb <;> try exact noB hb) | (refine cd (fun hb => ?_) (fun hb => ?_) <;> replace hb := nb hb <;> try exact noB hb) | (with_reducible refine Exists.intro _ (And.intro rfl ?_)) | ((with_reducible refine And.intro ?_ ?_); (focus exact sdA)) | fail)
    · have hx : r.hd1 ++ txtsB (r.vars.take i) ++ txtB (r.vars.getD i []) = r.hd1 ++ txtsB (r.vars.take (i + 1)) := by
        rw [txtsB_take r.vars i (by omega), List.append_assoc]
      rw [hx]
      refine nx (i + 1) (by omega) (by omega) (Ent.to ?_ ?_)
      · skip
        exact wkA
      · simp only [txtsB_take r.vars i (by omega), List.length_append, Nat.add_assoc]
    · rw [List.take_of_length_le (by omega)]
      all_goals (refine rt ?_; refine fin ?_; exact wqA)
theorem xput_fn (r : RecS) (h : r.may) : Fn Try.prog 28 [r.v] [] (bytes r.put) [] := by
  unfold RecS.put
  by_cases h1 : r.kind = 1
  · rw [if_pos h1]
    exact xput_fn1 r h1 h
  by_cases h2 : r.kind = 2
  · rw [if_neg h1, if_pos h2]
    exact xput_fn2 r h2 h
  rw [if_neg h1, if_neg h2]
  exact xput_fn3 r (by unfold RecS.may at h; omega) h
end Go.Proofs.Ytpmbeldmclcjlaa.Vs
