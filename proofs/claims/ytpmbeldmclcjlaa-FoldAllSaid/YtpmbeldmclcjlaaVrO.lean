/- records: what bytes are read as; records: what the bytes of a Point are read as. -/
import Derived.Test.YtpmbeldmclcjlaaVrM
set_option linter.unusedVariables false
set_option linter.unusedSimpArgs false
namespace Go.Proofs.Ytpmbeldmclcjlaa.Vs
open Go.RowKit
set_option maxRecDepth 100000
def RecS.zero : RecS := ⟨0, 0, 0, 0, 0, [], 0, 0, 0, 0, 0, 0, []⟩
/-- The reader behind n texts, and the texts. -/
def rdVs : Nat → RS → RS
  | 0, s => s
  | n + 1, s => rdTs (rdVs n s)
def rdV : Nat → RS → List (List UInt8)
  | 0, _ => []
  | n + 1, s => rdV n s ++ [rdT (rdVs n s)]
theorem rdV_len (n : Nat) (s : RS) : (rdV n s).length = n := by
  induction n with
  | zero => rfl
  | succ n ih => simp [rdV, ih]
def gk (b : List UInt8) : Nat := rdN 1 (b, false)
def g1 (b : List UInt8) : RS := rdNs 1 (b, false)
def p2 (b : List UInt8) : RS := rdNs 1 (g1 b)
def p3 (b : List UInt8) : RS := rdNs 2 (p2 b)
def p4 (b : List UInt8) : RS := rdNs 1 (p3 b)
def p5 (b : List UInt8) : RS := rdNs 4 (p4 b)
def p6 (b : List UInt8) : RS := rdNs 1 (p5 b)
def pr (b : List UInt8) : RecS := ⟨1, rdN 1 (g1 b) - 3, rdN 2 (p2 b), rdN 1 (p3 b), rdN 4 (p4 b), rdV (rdN 1 (p5 b)) (p6 b), 0, 0, 0, 0, 0, 0, []⟩
def pe (b : List UInt8) : RS := rdVs (rdN 1 (p5 b)) (p6 b)
def q2 (b : List UInt8) : RS := rdNs 2 (g1 b)
def q3 (b : List UInt8) : RS := rdNs 1 (q2 b)
def q4 (b : List UInt8) : RS := rdNs 1 (q3 b)
def qr (b : List UInt8) : RecS := ⟨2, 0, 0, 0, 0, [], rdN 2 (g1 b), rdN 1 (q2 b), rdN 1 (q3 b), 0, 0, 0, []⟩
def o3' (b : List UInt8) : RS := rdNs 1 (q2 b)
def o4' (b : List UInt8) : RS := rdNs 4 (o3' b)
def o5' (b : List UInt8) : RS := rdNs 1 (o4' b)
def o6' (b : List UInt8) : RS := rdTs (o5' b)
def or' (b : List UInt8) : RecS := ⟨3, 0, 0, 0, 0, [], rdN 2 (g1 b), 0, 0, rdN 1 (q2 b) - 3, rdN 4 (o3' b), rdN 1 (o4' b) - 1, rdT (o5' b)⟩
def nr (b : List UInt8) : RecS := ⟨gk b, 0, 0, 0, 0, [], 0, 0, 0, 0, 0, 0, []⟩
/-- What was read, and the reader behind it. -/
def rawR (b : List UInt8) : RecS := if gk b = 1 then pr b else if gk b = 2 then qr b else if gk b = 3 then or' b else nr b
def rawE (b : List UInt8) : RS := if gk b = 1 then pe b else if gk b = 2 then q4 b else if gk b = 3 then o6' b else g1 b
def getOK (b : List UInt8) : Bool := rdE (rawE b) && decide (rawR b).may
theorem rdT_le (s : RS) : (rdT s).length ≤ 65535 := by
  have := rdN_lt 2 s
  unfold rdT
  split
  · simp
  · rw [List.length_take]
    omega
/-- The i-th of five. -/
def at5 {α : Type} (a b c d e : α) : Nat → α
  | 0 => a
  | 1 => b
  | 2 => c
  | 3 => d
  | _ => e
attribute [go_sem] at5
/-- The fields, of a record whose rows are nil. -/
abbrev zc (k : Int) : List V := [i64 k, i64 0, i64 0, i64 0, i64 0, .nil, i64 0, i64 0, i64 0, i64 0, i64 0, i64 0, .nil]
theorem fields1_any (j : Nat) (k : Int) : Fn Try.prog 135 [.ptr 0 j] [.cells 35 (zc k)] (.agg (fdl 0 j 1 1001 0 2)) [.cells 35 (zc k)] := by
  refine en Try.func135 (hfr := by (simp only [Try.ntmps135, go_sem, Nat.reduceSub, Nat.reduceAdd]; rfl)) ?_
  repeat' (first | exact absurd hb Bool.false_ne_true | exact absurd hb.symm Bool.false_ne_true | refine W.seq ?_ | refine W.block ?_ | (refine rg [] ?_; intro K hK) | (refine dr [] ?_; intro K hK) | refine oq ?_ | refine sk ?_ | (refine nk hK ?_; clear hK K) | (refine nd hK ?_; clear hK K) | refine sp ?_ | refine ex ?_ | (refine gs (fun hb => ?_) (fun hb => ?_) <;> replace hb := nb hb <;> try exact noB hb) | (refine cd (fun hb => ?_) (fun hb => ?_) <;> replace hb := nb hb <;> try exact noB hb) | (with_reducible refine Exists.intro _ (And.intro rfl ?_)) | ((with_reducible refine And.intro ?_ ?_); (focus exact sdA)) | fail)
  all_goals (refine rt ?_; refine fin ?_; exact wqA)
theorem fields2_any (j : Nat) (k : Int) : Fn Try.prog 136 [.ptr 0 j] [.cells 35 (zc k)] (.agg (fdl 0 j 0 2147483647 0 4)) [.cells 35 (zc k)] := by
  refine en Try.func136 (hfr := by (simp only [Try.ntmps136, go_sem, Nat.reduceSub, Nat.reduceAdd]; rfl)) ?_
  repeat' (first | exact absurd hb Bool.false_ne_true | exact absurd hb.symm Bool.false_ne_true | refine W.seq ?_ | refine W.block ?_ | (refine rg [] ?_; intro K hK) | (refine dr [] ?_; intro K hK) | refine oq ?_ | refine sk ?_ | (refine nk hK ?_; clear hK K) | (refine nd hK ?_; clear hK K) | refine sp ?_ | refine ex ?_ | (refine gs (fun hb => ?_) (fun hb => ?_) <;> replace hb := nb hb <;> try exact noB hb) | (refine cd (fun hb => ?_) (fun hb => ?_) <;> replace hb := nb hb <;> try exact noB hb) | (with_reducible refine Exists.intro _ (And.intro rfl ?_)) | ((with_reducible refine And.intro ?_ ?_); (focus exact sdA)) | fail)
  all_goals (refine rt ?_; refine fin ?_; exact wqA)
theorem fieldz1 : Fn Try.prog 76 [.ptr 0 0] [.cells 35 (zc 1)] (.row 1 0 4 4) [.cells 35 (zc 1), .cells 144 (flds1 0)] := by
  refine en Try.func76 (hfr := by (simp only [Try.ntmps76, go_sem, Nat.reduceSub, Nat.reduceAdd]; rfl)) ?_
  repeat' (first | exact absurd hb Bool.false_ne_true | exact absurd hb.symm Bool.false_ne_true | refine W.seq ?_ | refine W.block ?_ | (refine rg [33] ?_; intro K hK) | (refine dr [33] ?_; intro K hK) | refine cle [0] 0 (fields1_any 2 1) ?_ | refine cle [0] 0 (fields2_any 4 1) ?_ | refine oq ?_ | refine sk ?_ | (refine nk hK ?_; clear hK K) | (refine nd hK ?_; clear hK K) | refine sp ?_ | refine ex ?_ | (refine gs (fun hb => ?_) (fun hb => ?_) <;> replace hb := nb hb <;> try exact noB hb) | (refine cd (fun hb => ?_) (fun hb => ?_) <;> replace hb := nb hb <;> try exact noB hb) | (with_reducible refine Exists.intro _ (And.intro rfl ?_)) | ((with_reducible refine And.intro ?_ ?_); (focus exact sdA)) | fail)
  all_goals (refine rt ?_; refine fin ?_; exact wqA)
theorem fieldz2 : Fn Try.prog 76 [.ptr 0 0] [.cells 35 (zc 2)] (.row 1 0 3 3) [.cells 35 (zc 2), .cells 144 (flds2 0)] := by
  refine en Try.func76 (hfr := by (simp only [Try.ntmps76, go_sem, Nat.reduceSub, Nat.reduceAdd]; rfl)) ?_
  repeat' (first | exact absurd hb Bool.false_ne_true | exact absurd hb.symm Bool.false_ne_true | refine W.seq ?_ | refine W.block ?_ | (refine rg [49] ?_; intro K hK) | (refine dr [49] ?_; intro K hK) | refine cle [0] 0 (fields1_any 6 2) ?_ | refine oq ?_ | refine sk ?_ | (refine nk hK ?_; clear hK K) | (refine nd hK ?_; clear hK K) | refine sp ?_ | refine ex ?_ | (refine gs (fun hb => ?_) (fun hb => ?_) <;> replace hb := nb hb <;> try exact noB hb) | (refine cd (fun hb => ?_) (fun hb => ?_) <;> replace hb := nb hb <;> try exact noB hb) | (with_reducible refine Exists.intro _ (And.intro rfl ?_)) | ((with_reducible refine And.intro ?_ ?_); (focus exact sdA)) | fail)
  all_goals (refine rt ?_; refine fin ?_; exact wqA)
theorem fieldz3 : Fn Try.prog 76 [.ptr 0 0] [.cells 35 (zc 3)] (.row 1 0 4 4) [.cells 35 (zc 3), .cells 144 (flds3 0)] := by
  refine en Try.func76 (hfr := by (simp only [Try.ntmps76, go_sem, Nat.reduceSub, Nat.reduceAdd]; rfl)) ?_
  repeat' (first | exact absurd hb Bool.false_ne_true | exact absurd hb.symm Bool.false_ne_true | refine W.seq ?_ | refine W.block ?_ | (refine rg [70] ?_; intro K hK) | (refine dr [70] ?_; intro K hK) | refine cle [0] 0 (fields1_any 6 3) ?_ | refine cle [0] 0 (fields2_any 10 3) ?_ | refine oq ?_ | refine sk ?_ | (refine nk hK ?_; clear hK K) | (refine nd hK ?_; clear hK K) | refine sp ?_ | refine ex ?_ | (refine gs (fun hb => ?_) (fun hb => ?_) <;> replace hb := nb hb <;> try exact noB hb) | (refine cd (fun hb => ?_) (fun hb => ?_) <;> replace hb := nb hb <;> try exact noB hb) | (with_reducible refine Exists.intro _ (And.intro rfl ?_)) | ((with_reducible refine And.intro ?_ ?_); (focus exact sdA)) | fail)
  all_goals (refine rt ?_; refine fin ?_; exact wqA)
theorem fieldz0 (k : Int) (h1 : ¬ k = 1) (h2 : ¬ k = 2) (h3 : ¬ k = 3) : Fn Try.prog 76 [.ptr 0 0] [.cells 35 (zc k)] .nil [.cells 35 (zc k)] := by
  refine en Try.func76 (hfr := by (simp only [Try.ntmps76, go_sem, Nat.reduceSub, Nat.reduceAdd]; rfl)) ?_
  repeat' (first | exact absurd hb Bool.false_ne_true | exact absurd hb.symm Bool.false_ne_true | refine W.seq ?_ | refine W.block ?_ | (refine rg [] ?_; intro K hK) | (refine dr [] ?_; intro K hK) | refine oq ?_ | refine sk ?_ | (refine nk hK ?_; clear hK K) | (refine nd hK ?_; clear hK K) | refine sp ?_ | refine ex ?_ | (refine gs (fun hb => ?_) (fun hb => ?_) <;> replace hb := nb hb <;> try exact noB hb) | (refine cd (fun hb => ?_) (fun hb => ?_) <;> replace hb := nb hb <;> try exact noB hb) | (with_reducible refine Exists.intro _ (And.intro rfl ?_)) | ((with_reducible refine And.intro ?_ ?_); (focus exact sdA)) | fail)
  all_goals (refine rt ?_; refine fin ?_; exact wqA)
set_option maxHeartbeats 4000000 in
theorem get_fn2 (b : List UInt8) (hB : b.length ≤ 140737488355328) (hk : gk b = 2) : Fn Try.prog 27 [bytes b] [] (if rdE (q4 b) = true ∧ (qr b).may then .tup [(qr b).v, i64 0] else .tup [RecS.zero.v, i64 2]) [] := by
  have cr := read_fn b hB
  have c0 := rnum_fn (b, false) 1 (by decide) (by decide)
  rw [show rdN 1 (b, false) = 2 from hk, show rdNs 1 (b, false) = g1 b from rfl, show rdS (b, false) = rdr b false from rfl] at c0
  have c1 := rnum_fn (g1 b) 2 (by decide) (by decide)
  have b1 : rdN 2 (g1 b) < 65536 := rdN_lt 2 _
  rw [show rdNs 2 (g1 b) = q2 b from rfl] at c1
  have c2 := rnum_fn (q2 b) 1 (by decide) (by decide)
  have b2 : rdN 1 (q2 b) < 256 := rdN_lt 1 _
  rw [show rdNs 1 (q2 b) = q3 b from rfl] at c2
  have c3 := rnum_fn (q3 b) 1 (by decide) (by decide)
  have b3 : rdN 1 (q3 b) < 256 := rdN_lt 1 _
  rw [show rdNs 1 (q3 b) = q4 b from rfl] at c3
  have ce := rend_fn (q4 b)
  have cm := may_fn (qr b)
  have hq : (qr b).cells = [i64 2, i64 0, i64 0, i64 0, i64 0, texts [], i64 (rdN 2 (g1 b)), i64 (rdN 1 (q2 b)), i64 (rdN 1 (q3 b)), i64 0, i64 0, i64 0, bytes []] := rfl
  unfold RecS.v at cm ⊢
  rw [hq] at cm ⊢
  have hz : RecS.zero.cells = [i64 0, i64 0, i64 0, i64 0, i64 0, texts [], i64 0, i64 0, i64 0, i64 0, i64 0, i64 0, bytes []] := rfl
  generalize hg1 : rdN 2 (g1 b) = n1 at *
  generalize hg2 : rdN 1 (q2 b) = n2 at *
  generalize hg3 : rdN 1 (q3 b) = n3 at *
  refine en Try.func27 (hfr := by (simp only [Try.ntmps27, go_sem, Nat.reduceSub, Nat.reduceAdd]; rfl)) ?_
  repeat' (first | exact absurd hb Bool.false_ne_true | exact absurd hb.symm Bool.false_ne_true | refine W.seq ?_ | refine W.block ?_ | (refine rgx [1] [] ?_; intro K hK) | (refine drx [1] [] ?_; intro K hK) | refine oq ?_ | refine sk ?_ | (refine nk hK ?_; clear hK K) | (refine nd hK ?_; clear hK K) | refine sp ?_ | refine ex ?_ | (refine gs (fun hb => ?_) (fun hb => ?_) <;> replace hb := nb hb <;> try exact noB hb) | (refine cd (fun hb => ?_) (fun hb => ?_) <;> replace hb := nb hb <;> try exact noB hb) | (with_reducible refine Exists.intro _ (And.intro rfl ?_)) | ((with_reducible refine And.intro ?_ ?_); (focus exact sdA)) | fail)
  refine W.ent (Ent.more 1) ?_
  repeat' (first | exact absurd hb Bool.false_ne_true | exact absurd hb.symm Bool.false_ne_true | refine W.seq ?_ | refine W.block ?_ | (refine rgx [4] [] ?_; intro K hK) | (refine drx [4] [] ?_; intro K hK) | refine cle [1] 1 (cr) ?_ | refine cle [1] 0 (c0) ?_ | refine oq ?_ | refine sk ?_ | (refine nk hK ?_; clear hK K) | (refine nd hK ?_; clear hK K) | refine sp ?_ | refine ex ?_ | (refine gs (fun hb => ?_) (fun hb => ?_) <;> replace hb := nb hb <;> try exact noB hb) | (refine cd (fun hb => ?_) (fun hb => ?_) <;> replace hb := nb hb <;> try exact noB hb) | (with_reducible refine Exists.intro _ (And.intro rfl ?_)) | ((with_reducible refine And.intro ?_ ?_); (focus exact sdA)) | fail)
  refine W.ent (Ent.more 1) ?_
  repeat' (first | exact absurd hb Bool.false_ne_true | exact absurd hb.symm Bool.false_ne_true | refine W.seq ?_ | refine W.block ?_ | (refine rgx [5] [] ?_; intro K hK) | (refine drx [5] [] ?_; intro K hK) | refine cle [2, 3] 1 (fieldz2) ?_ | refine oq ?_ | refine sk ?_ | (refine nk hK ?_; clear hK K) | (refine nd hK ?_; clear hK K) | refine sp ?_ | refine ex ?_ | (refine gs (fun hb => ?_) (fun hb => ?_) <;> replace hb := nb hb <;> try exact noB hb) | (refine cd (fun hb => ?_) (fun hb => ?_) <;> replace hb := nb hb <;> try exact noB hb) | (with_reducible refine Exists.intro _ (And.intro rfl ?_)) | ((with_reducible refine And.intro ?_ ?_); (focus exact sdA)) | fail)
  refine W.lp (ι := Nat) (fun i => (ay 2 (.ptr 0 0 :: i64 0 :: .ptr 1 0 :: .fn (.func 87) [.ptr 1 0] [] :: .fn (.func 88) [.ptr 1 0] [] :: .ptr 2 0 :: ay 12 (.row 3 0 3 3 :: i64 3 :: i64 i :: ay 50 [])))) (fun i => [.cells 35 (zc 0), at5 (rdS (g1 b)) (rdS (q2 b)) (rdS (q3 b)) (rdS (q4 b)) .dead i, .cells 35 (at5 (zc 2) [i64 2, i64 0, i64 0, i64 0, i64 0, .nil, i64 n1, i64 0, i64 0, i64 0, i64 0, i64 0, .nil] [i64 2, i64 0, i64 0, i64 0, i64 0, .nil, i64 n1, i64 n2, i64 0, i64 0, i64 0, i64 0, .nil] [i64 2, i64 0, i64 0, i64 0, i64 0, texts [], i64 n1, i64 n2, i64 n3, i64 0, i64 0, i64 0, bytes []] [] i), .cells 144 (flds2 2)]) (fun i => i ≤ 3) (fun i => 3 - i) 0 (by decide) (Ent.to ?_ rfl) ?_
  · skip
    exact wkA
  · intro i hi
    obtain rfl | rfl | rfl | rfl : i = 0 ∨ i = 1 ∨ i = 2 ∨ i = 3 := by omega
    all_goals simp only [at5]
    · skip
      repeat' (first | exact absurd hb Bool.false_ne_true | exact absurd hb.symm Bool.false_ne_true | refine W.seq ?_ | refine W.block ?_ | (refine rg [] ?_; intro K hK) | (refine dr [] ?_; intro K hK) | refine cle [1] 0 (c1) ?_ | refine oq ?_ | refine sk ?_ | (refine nk hK ?_; clear hK K) | (refine nd hK ?_; clear hK K) | refine sp ?_ | refine ex ?_ | (refine gs (fun hb => ?_) (fun hb => ?_) <;> replace hb := nb hb <;> try exact noB hb) | (refine cd (fun hb => ?_) (fun hb => ?_) <;> replace hb := nb hb <;> try exact noB hb) | (with_reducible refine Exists.intro _ (And.intro rfl ?_)) | ((with_reducible refine And.intro ?_ ?_); (focus exact sdA)) | fail)
      simp only [Int.sub_zero]
      refine nx 1 (by decide) (by decide) (sb [0, 1, 2, 3] _ _ (hf := ?_))
      exact wkA
    · skip
      repeat' (first | exact absurd hb Bool.false_ne_true | exact absurd hb.symm Bool.false_ne_true | refine W.seq ?_ | refine W.block ?_ | (refine rg [] ?_; intro K hK) | (refine dr [] ?_; intro K hK) | refine cle [1] 0 (c2) ?_ | refine oq ?_ | refine sk ?_ | (refine nk hK ?_; clear hK K) | (refine nd hK ?_; clear hK K) | refine sp ?_ | refine ex ?_ | (refine gs (fun hb => ?_) (fun hb => ?_) <;> replace hb := nb hb <;> try exact noB hb) | (refine cd (fun hb => ?_) (fun hb => ?_) <;> replace hb := nb hb <;> try exact noB hb) | (with_reducible refine Exists.intro _ (And.intro rfl ?_)) | ((with_reducible refine And.intro ?_ ?_); (focus exact sdA)) | fail)
      simp only [Int.sub_zero]
      refine nx 2 (by decide) (by decide) (sb [0, 1, 2, 3] _ _ (hf := ?_))
      exact wkA
    · skip
      repeat' (first | exact absurd hb Bool.false_ne_true | exact absurd hb.symm Bool.false_ne_true | refine W.seq ?_ | refine W.block ?_ | (refine rg [] ?_; intro K hK) | (refine dr [] ?_; intro K hK) | refine cle [1] 0 (c3) ?_ | refine oq ?_ | refine sk ?_ | (refine nk hK ?_; clear hK K) | (refine nd hK ?_; clear hK K) | refine sp ?_ | refine ex ?_ | (refine gs (fun hb => ?_) (fun hb => ?_) <;> replace hb := nb hb <;> try exact noB hb) | (refine cd (fun hb => ?_) (fun hb => ?_) <;> replace hb := nb hb <;> try exact noB hb) | (with_reducible refine Exists.intro _ (And.intro rfl ?_)) | ((with_reducible refine And.intro ?_ ?_); (focus exact sdA)) | fail)
      simp only [Int.sub_zero]
      refine nx 3 (by decide) (by decide) (sb [0, 1, 2, 3] _ _ (hf := ?_))
      exact wkA
    · skip
      repeat' (first | exact absurd hb Bool.false_ne_true | exact absurd hb.symm Bool.false_ne_true | refine W.seq ?_ | refine W.block ?_ | (refine rg [] ?_; intro K hK) | (refine dr [] ?_; intro K hK) | refine cle [1] 0 (ce) ?_ | refine cl (cm) ?_ | refine oq ?_ | refine sk ?_ | (refine nk hK ?_; clear hK K) | (refine nd hK ?_; clear hK K) | refine sp ?_ | refine ex ?_ | (refine gs (fun hb => ?_) (fun hb => ?_) <;> replace hb := nb hb <;> try exact noB hb) | (refine cd (fun hb => ?_) (fun hb => ?_) <;> replace hb := nb hb <;> try exact noB hb) | (with_reducible refine Exists.intro _ (And.intro rfl ?_)) | ((with_reducible refine And.intro ?_ ?_); (focus exact sdA)) | fail)
      · rw [if_neg (fun h => ‹¬ (qr b).may› h.2), hz]
        all_goals (refine rt ?_; refine fin ?_; exact wqA)
      · rw [if_pos ⟨‹_›, ‹_›⟩]
        all_goals (refine rt ?_; refine fin ?_; exact wqA)
      · rw [if_neg (fun h => by simp_all), hz]
        all_goals (refine rt ?_; refine fin ?_; exact wqA)
set_option maxHeartbeats 4000000 in
theorem get_fn3 (b : List UInt8) (hB : b.length ≤ 140737488355328) (hk : gk b = 3) : Fn Try.prog 27 [bytes b] [] (if rdE (o6' b) = true ∧ (or' b).may then .tup [(or' b).v, i64 0] else .tup [RecS.zero.v, i64 2]) [] := by
  have cr := read_fn b hB
  have c0 := rnum_fn (b, false) 1 (by decide) (by decide)
  rw [show rdN 1 (b, false) = 3 from hk, show rdNs 1 (b, false) = g1 b from rfl, show rdS (b, false) = rdr b false from rfl] at c0
  have c1 := rnum_fn (g1 b) 2 (by decide) (by decide)
  have b1 : rdN 2 (g1 b) < 65536 := rdN_lt 2 _
  rw [show rdNs 2 (g1 b) = q2 b from rfl] at c1
  have c2 := rnum_fn (q2 b) 1 (by decide) (by decide)
  have b2 : rdN 1 (q2 b) < 256 := rdN_lt 1 _
  rw [show rdNs 1 (q2 b) = o3' b from rfl] at c2
  have c3 := rnum_fn (o3' b) 4 (by decide) (by decide)
  have b3 : rdN 4 (o3' b) < 4294967296 := rdN_lt 4 _
  rw [show rdNs 4 (o3' b) = o4' b from rfl] at c3
  have c4 := rnum_fn (o4' b) 1 (by decide) (by decide)
  have b4 : rdN 1 (o4' b) < 256 := rdN_lt 1 _
  rw [show rdNs 1 (o4' b) = o5' b from rfl] at c4
  have ct := rtext_fn (o5' b)
  rw [show rdTs (o5' b) = o6' b from rfl] at ct
  have cc := clone_fn (rdT (o5' b)) (by have := rdT_le (o5' b); omega)
  have ce := rend_fn (o6' b)
  have cm := may_fn (or' b)
  have hq : (or' b).cells = [i64 3, i64 0, i64 0, i64 0, i64 0, texts [], i64 (rdN 2 (g1 b)), i64 0, i64 0, i64 (rdN 1 (q2 b) - 3), i64 (rdN 4 (o3' b)), i64 (rdN 1 (o4' b) - 1), bytes (rdT (o5' b))] := rfl
  unfold RecS.v at cm ⊢
  rw [hq] at cm ⊢
  have hz : RecS.zero.cells = [i64 0, i64 0, i64 0, i64 0, i64 0, texts [], i64 0, i64 0, i64 0, i64 0, i64 0, i64 0, bytes []] := rfl
  generalize hg1 : rdN 2 (g1 b) = n1 at *
  generalize hg2 : rdN 1 (q2 b) = n2 at *
  generalize hg3 : rdN 4 (o3' b) = n3 at *
  generalize hg4 : rdN 1 (o4' b) = n4 at *
  generalize hg5 : rdT (o5' b) = tx at *
  refine en Try.func27 (hfr := by (simp only [Try.ntmps27, go_sem, Nat.reduceSub, Nat.reduceAdd]; rfl)) ?_
  repeat' (first | exact absurd hb Bool.false_ne_true | exact absurd hb.symm Bool.false_ne_true | refine W.seq ?_ | refine W.block ?_ | (refine rgx [1] [] ?_; intro K hK) | (refine drx [1] [] ?_; intro K hK) | refine oq ?_ | refine sk ?_ | (refine nk hK ?_; clear hK K) | (refine nd hK ?_; clear hK K) | refine sp ?_ | refine ex ?_ | (refine gs (fun hb => ?_) (fun hb => ?_) <;> replace hb := nb hb <;> try exact noB hb) | (refine cd (fun hb => ?_) (fun hb => ?_) <;> replace hb := nb hb <;> try exact noB hb) | (with_reducible refine Exists.intro _ (And.intro rfl ?_)) | ((with_reducible refine And.intro ?_ ?_); (focus exact sdA)) | fail)
  refine W.ent (Ent.more 1) ?_
  repeat' (first | exact absurd hb Bool.false_ne_true | exact absurd hb.symm Bool.false_ne_true | refine W.seq ?_ | refine W.block ?_ | (refine rgx [4] [] ?_; intro K hK) | (refine drx [4] [] ?_; intro K hK) | refine cle [1] 1 (cr) ?_ | refine cle [1] 0 (c0) ?_ | refine oq ?_ | refine sk ?_ | (refine nk hK ?_; clear hK K) | (refine nd hK ?_; clear hK K) | refine sp ?_ | refine ex ?_ | (refine gs (fun hb => ?_) (fun hb => ?_) <;> replace hb := nb hb <;> try exact noB hb) | (refine cd (fun hb => ?_) (fun hb => ?_) <;> replace hb := nb hb <;> try exact noB hb) | (with_reducible refine Exists.intro _ (And.intro rfl ?_)) | ((with_reducible refine And.intro ?_ ?_); (focus exact sdA)) | fail)
  refine W.ent (Ent.more 1) ?_
  repeat' (first | exact absurd hb Bool.false_ne_true | exact absurd hb.symm Bool.false_ne_true | refine W.seq ?_ | refine W.block ?_ | (refine rgx [5] [] ?_; intro K hK) | (refine drx [5] [] ?_; intro K hK) | refine cle [2, 3] 1 (fieldz3) ?_ | refine oq ?_ | refine sk ?_ | (refine nk hK ?_; clear hK K) | (refine nd hK ?_; clear hK K) | refine sp ?_ | refine ex ?_ | (refine gs (fun hb => ?_) (fun hb => ?_) <;> replace hb := nb hb <;> try exact noB hb) | (refine cd (fun hb => ?_) (fun hb => ?_) <;> replace hb := nb hb <;> try exact noB hb) | (with_reducible refine Exists.intro _ (And.intro rfl ?_)) | ((with_reducible refine And.intro ?_ ?_); (focus exact sdA)) | fail)
  refine W.lp (ι := Nat) (fun i => (ay 2 (.ptr 0 0 :: i64 0 :: .ptr 1 0 :: .fn (.func 87) [.ptr 1 0] [] :: .fn (.func 88) [.ptr 1 0] [] :: .ptr 2 0 :: ay 12 (.row 3 0 4 4 :: i64 4 :: i64 i :: ay 50 [])))) (fun i => [.cells 35 (zc 0), at5 (rdS (g1 b)) (rdS (q2 b)) (rdS (o3' b)) (rdS (o4' b)) (rdS (o5' b)) i, .cells 35 (at5 (zc 3) [i64 3, i64 0, i64 0, i64 0, i64 0, .nil, i64 n1, i64 0, i64 0, i64 0, i64 0, i64 0, .nil] [i64 3, i64 0, i64 0, i64 0, i64 0, .nil, i64 n1, i64 0, i64 0, i64 (n2 - 3), i64 0, i64 0, .nil] [i64 3, i64 0, i64 0, i64 0, i64 0, .nil, i64 n1, i64 0, i64 0, i64 (n2 - 3), i64 n3, i64 0, .nil] [i64 3, i64 0, i64 0, i64 0, i64 0, texts [], i64 n1, i64 0, i64 0, i64 (n2 - 3), i64 n3, i64 (n4 - 1), .nil] i), .cells 144 (flds3 2)]) (fun i => i ≤ 4) (fun i => 4 - i) 0 (by decide) (Ent.to ?_ rfl) ?_
  · skip
    exact wkA
  · intro i hi
    obtain rfl | rfl | rfl | rfl | rfl : i = 0 ∨ i = 1 ∨ i = 2 ∨ i = 3 ∨ i = 4 := by omega
    all_goals simp only [at5]
    · skip
      repeat' (first | exact absurd hb Bool.false_ne_true | exact absurd hb.symm Bool.false_ne_true | refine W.seq ?_ | refine W.block ?_ | (refine rg [] ?_; intro K hK) | (refine dr [] ?_; intro K hK) | refine cle [1] 0 (c1) ?_ | refine oq ?_ | refine sk ?_ | (refine nk hK ?_; clear hK K) | (refine nd hK ?_; clear hK K) | refine sp ?_ | refine ex ?_ | (refine gs (fun hb => ?_) (fun hb => ?_) <;> replace hb := nb hb <;> try exact noB hb) | (refine cd (fun hb => ?_) (fun hb => ?_) <;> replace hb := nb hb <;> try exact noB hb) | (with_reducible refine Exists.intro _ (And.intro rfl ?_)) | ((with_reducible refine And.intro ?_ ?_); (focus exact sdA)) | fail)
      (try simp only [Int.sub_zero])
      refine nx 1 (by decide) (by decide) (sb [0, 1, 2, 3] _ _ (hf := ?_))
      exact wkA
    · skip
      repeat' (first | exact absurd hb Bool.false_ne_true | exact absurd hb.symm Bool.false_ne_true | refine W.seq ?_ | refine W.block ?_ | (refine rg [] ?_; intro K hK) | (refine dr [] ?_; intro K hK) | refine cle [1] 0 (c2) ?_ | refine oq ?_ | refine sk ?_ | (refine nk hK ?_; clear hK K) | (refine nd hK ?_; clear hK K) | refine sp ?_ | refine ex ?_ | (refine gs (fun hb => ?_) (fun hb => ?_) <;> replace hb := nb hb <;> try exact noB hb) | (refine cd (fun hb => ?_) (fun hb => ?_) <;> replace hb := nb hb <;> try exact noB hb) | (with_reducible refine Exists.intro _ (And.intro rfl ?_)) | ((with_reducible refine And.intro ?_ ?_); (focus exact sdA)) | fail)
      (try simp only [Int.sub_zero])
      refine nx 2 (by decide) (by decide) (sb [0, 1, 2, 3] _ _ (hf := ?_))
      exact wkA
    · skip
      repeat' (first | exact absurd hb Bool.false_ne_true | exact absurd hb.symm Bool.false_ne_true | refine W.seq ?_ | refine W.block ?_ | (refine rg [] ?_; intro K hK) | (refine dr [] ?_; intro K hK) | refine cle [1] 0 (c3) ?_ | refine oq ?_ | refine sk ?_ | (refine nk hK ?_; clear hK K) | (refine nd hK ?_; clear hK K) | refine sp ?_ | refine ex ?_ | (refine gs (fun hb => ?_) (fun hb => ?_) <;> replace hb := nb hb <;> try exact noB hb) | (refine cd (fun hb => ?_) (fun hb => ?_) <;> replace hb := nb hb <;> try exact noB hb) | (with_reducible refine Exists.intro _ (And.intro rfl ?_)) | ((with_reducible refine And.intro ?_ ?_); (focus exact sdA)) | fail)
      (try simp only [Int.sub_zero])
      refine nx 3 (by decide) (by decide) (sb [0, 1, 2, 3] _ _ (hf := ?_))
      exact wkA
    · skip
      repeat' (first | exact absurd hb Bool.false_ne_true | exact absurd hb.symm Bool.false_ne_true | refine W.seq ?_ | refine W.block ?_ | (refine rg [] ?_; intro K hK) | (refine dr [] ?_; intro K hK) | refine cle [1] 0 (c4) ?_ | refine oq ?_ | refine sk ?_ | (refine nk hK ?_; clear hK K) | (refine nd hK ?_; clear hK K) | refine sp ?_ | refine ex ?_ | (refine gs (fun hb => ?_) (fun hb => ?_) <;> replace hb := nb hb <;> try exact noB hb) | (refine cd (fun hb => ?_) (fun hb => ?_) <;> replace hb := nb hb <;> try exact noB hb) | (with_reducible refine Exists.intro _ (And.intro rfl ?_)) | ((with_reducible refine And.intro ?_ ?_); (focus exact sdA)) | fail)
      (try simp only [Int.sub_zero])
      refine nx 4 (by decide) (by decide) (sb [0, 1, 2, 3] _ _ (hf := ?_))
      exact wkA
    · skip
      repeat' (first | exact absurd hb Bool.false_ne_true | exact absurd hb.symm Bool.false_ne_true | refine W.seq ?_ | refine W.block ?_ | (refine rg [] ?_; intro K hK) | (refine dr [] ?_; intro K hK) | refine cle [1] 0 (ct) ?_ | refine cl (cc) ?_ | refine cle [1] 0 (ce) ?_ | refine cl (cm) ?_ | refine oq ?_ | refine sk ?_ | (refine nk hK ?_; clear hK K) | (refine nd hK ?_; clear hK K) | refine sp ?_ | refine ex ?_ | (refine gs (fun hb => ?_) (fun hb => ?_) <;> replace hb := nb hb <;> try exact noB hb) | (refine cd (fun hb => ?_) (fun hb => ?_) <;> replace hb := nb hb <;> try exact noB hb) | (with_reducible refine Exists.intro _ (And.intro rfl ?_)) | ((with_reducible refine And.intro ?_ ?_); (focus exact sdA)) | fail)
      · rw [if_neg (fun h => ‹¬ (or' b).may› h.2), hz]
        all_goals (refine rt ?_; refine fin ?_; exact wqA)
      · rw [if_pos ⟨‹_›, ‹_›⟩]
        all_goals (refine rt ?_; refine fin ?_; exact wqA)
      · rw [if_neg (fun h => by simp_all), hz]
        all_goals (refine rt ?_; refine fin ?_; exact wqA)
set_option maxHeartbeats 4000000 in
theorem get_fn0 (b : List UInt8) (hB : b.length ≤ 140737488355328) (h1 : ¬ gk b = 1) (h2 : ¬ gk b = 2) (h3 : ¬ gk b = 3) : Fn Try.prog 27 [bytes b] [] (.tup [RecS.zero.v, i64 2]) [] := by
  have cr := read_fn b hB
  have c0 := rnum_fn (b, false) 1 (by decide) (by decide)
  rw [show rdN 1 (b, false) = gk b from rfl, show rdNs 1 (b, false) = g1 b from rfl, show rdS (b, false) = rdr b false from rfl] at c0
  have b0 : gk b < 256 := rdN_lt 1 _
  have i1 : ¬ ((gk b : Nat) : Int) = 1 := by omega
  have i2 : ¬ ((gk b : Nat) : Int) = 2 := by omega
  have i3 : ¬ ((gk b : Nat) : Int) = 3 := by omega
  have cf := fieldz0 (gk b) i1 i2 i3
  have ce := rend_fn (g1 b)
  have cm := may_fn (nr b)
  rw [decide_eq_false (p := (nr b).may) (fun h => by unfold RecS.may nr at h; simp only at h; omega)] at cm
  have hq : (nr b).cells = [i64 (gk b), i64 0, i64 0, i64 0, i64 0, texts [], i64 0, i64 0, i64 0, i64 0, i64 0, i64 0, bytes []] := rfl
  unfold RecS.v at cm ⊢
  rw [hq] at cm
  have hz : RecS.zero.cells = [i64 0, i64 0, i64 0, i64 0, i64 0, texts [], i64 0, i64 0, i64 0, i64 0, i64 0, i64 0, bytes []] := rfl
  rw [hz]
  generalize gk b = kk at *
  refine en Try.func27 (hfr := by (simp only [Try.ntmps27, go_sem, Nat.reduceSub, Nat.reduceAdd]; rfl)) ?_
  repeat' (first | exact absurd hb Bool.false_ne_true | exact absurd hb.symm Bool.false_ne_true | refine W.seq ?_ | refine W.block ?_ | (refine rgx [1] [] ?_; intro K hK) | (refine drx [1] [] ?_; intro K hK) | refine oq ?_ | refine sk ?_ | (refine nk hK ?_; clear hK K) | (refine nd hK ?_; clear hK K) | refine sp ?_ | refine ex ?_ | (refine gs (fun hb => ?_) (fun hb => ?_) <;> replace hb := nb hb <;> try exact noB hb) | (refine cd (fun hb => ?_) (fun hb => ?_) <;> replace hb := nb hb <;> try exact noB hb) | (with_reducible refine Exists.intro _ (And.intro rfl ?_)) | ((with_reducible refine And.intro ?_ ?_); (focus exact sdA)) | fail)
  refine W.ent (Ent.more 1) ?_
  repeat' (first | exact absurd hb Bool.false_ne_true | exact absurd hb.symm Bool.false_ne_true | refine W.seq ?_ | refine W.block ?_ | (refine rgx [5] [] ?_; intro K hK) | (refine drx [5] [] ?_; intro K hK) | refine cle [1] 1 (cr) ?_ | refine cle [1] 0 (c0) ?_ | refine cle [2] 0 (cf) ?_ | refine oq ?_ | refine sk ?_ | (refine nk hK ?_; clear hK K) | (refine nd hK ?_; clear hK K) | refine sp ?_ | refine ex ?_ | (refine gs (fun hb => ?_) (fun hb => ?_) <;> replace hb := nb hb <;> try exact noB hb) | (refine cd (fun hb => ?_) (fun hb => ?_) <;> replace hb := nb hb <;> try exact noB hb) | (with_reducible refine Exists.intro _ (And.intro rfl ?_)) | ((with_reducible refine And.intro ?_ ?_); (focus exact sdA)) | fail)
  refine W.lp (ι := Nat) (fun i => (ay 2 (.ptr 0 0 :: i64 0 :: .ptr 1 0 :: .fn (.func 87) [.ptr 1 0] [] :: .fn (.func 88) [.ptr 1 0] [] :: .ptr 2 0 :: ay 12 (.nil :: i64 0 :: i64 i :: ay 50 [])))) (fun i => [.cells 35 (zc 0), rdS (g1 b), .cells 35 [i64 kk, i64 0, i64 0, i64 0, i64 0, texts [], i64 0, i64 0, i64 0, i64 0, i64 0, i64 0, bytes []]]) (fun i => i = 0) (fun i => 0) 0 rfl (sb [0, 1, 2] _ _ (hf := ?_)) ?_
  · skip
    exact wkA
  · rintro i rfl
    repeat' (first | exact absurd hb Bool.false_ne_true | exact absurd hb.symm Bool.false_ne_true | refine W.seq ?_ | refine W.block ?_ | (refine rg [] ?_; intro K hK) | (refine dr [] ?_; intro K hK) | refine cle [1] 0 (ce) ?_ | refine cl (cm) ?_ | refine oq ?_ | refine sk ?_ | (refine nk hK ?_; clear hK K) | (refine nd hK ?_; clear hK K) | refine sp ?_ | refine ex ?_ | (refine gs (fun hb => ?_) (fun hb => ?_) <;> replace hb := nb hb <;> try exact noB hb) | (refine cd (fun hb => ?_) (fun hb => ?_) <;> replace hb := nb hb <;> try exact noB hb) | (with_reducible refine Exists.intro _ (And.intro rfl ?_)) | ((with_reducible refine And.intro ?_ ?_); (focus exact sdA)) | fail)
    · skip
      all_goals (refine rt ?_; refine fin ?_; exact wqA)
    · skip
      all_goals (refine rt ?_; refine fin ?_; exact wqA)
/-- A row of texts that grows, or nil. -/
def vcell (l : List (List UInt8)) (c : Nat) : V := if l.length = 0 then .nil else .own 1 (l.map dtext) c
def vcap (l : List (List UInt8)) : Ob := if l.length = 0 then .fresh else .cap 33 1 l.length
theorem vcell_0 (s : RS) (c : Nat) : vcell (rdV 0 s) c = .nil := rfl
theorem vcap_0 (s : RS) : vcap (rdV 0 s) = .fresh := rfl
theorem vcell_s (i : Nat) (s : RS) (c : Nat) : vcell (rdV (i + 1) s) c = .own 1 ((rdV (i + 1) s).map dtext) c := by
  unfold vcell
  rw [if_neg (by rw [rdV_len]; omega)]
theorem vcap_s (i : Nat) (s : RS) : vcap (rdV (i + 1) s) = .cap 33 1 (i + 1) := by
  unfold vcap
  rw [if_neg (by rw [rdV_len]; omega), rdV_len]
theorem rdV_dtext (i : Nat) (s : RS) : (rdV i s).map dtext ++ [dtext (rdT (rdVs i s))] = (rdV (i + 1) s).map dtext := by
  rw [rdV, List.map_append]
  rfl
set_option maxHeartbeats 4000000 in
theorem get_fn1 (b : List UInt8) (hB : b.length ≤ 140737488355328) (hk : gk b = 1) : Fn Try.prog 27 [bytes b] [] (if rdE (pe b) = true ∧ (pr b).may then .tup [(pr b).v, i64 0] else .tup [RecS.zero.v, i64 2]) [] := by
  have cr := read_fn b hB
  have c0 := rnum_fn (b, false) 1 (by decide) (by decide)
  rw [show rdN 1 (b, false) = 1 from hk, show rdNs 1 (b, false) = g1 b from rfl, show rdS (b, false) = rdr b false from rfl] at c0
  have c1 := rnum_fn (g1 b) 1 (by decide) (by decide)
  have b1 : rdN 1 (g1 b) < 256 := rdN_lt 1 _
  rw [show rdNs 1 (g1 b) = p2 b from rfl] at c1
  have c2 := rnum_fn (p2 b) 2 (by decide) (by decide)
  have b2 : rdN 2 (p2 b) < 65536 := rdN_lt 2 _
  rw [show rdNs 2 (p2 b) = p3 b from rfl] at c2
  have c3 := rnum_fn (p3 b) 1 (by decide) (by decide)
  have b3 : rdN 1 (p3 b) < 256 := rdN_lt 1 _
  rw [show rdNs 1 (p3 b) = p4 b from rfl] at c3
  have c4 := rnum_fn (p4 b) 4 (by decide) (by decide)
  have b4 : rdN 4 (p4 b) < 4294967296 := rdN_lt 4 _
  rw [show rdNs 4 (p4 b) = p5 b from rfl] at c4
  have c5 := rnum_fn (p5 b) 1 (by decide) (by decide)
  have b5 : rdN 1 (p5 b) < 256 := rdN_lt 1 _
  rw [show rdNs 1 (p5 b) = p6 b from rfl] at c5
  have ce := rend_fn (pe b)
  have cm := may_fn (pr b)
  have hq : (pr b).cells = [i64 1, i64 (rdN 1 (g1 b) - 3), i64 (rdN 2 (p2 b)), i64 (rdN 1 (p3 b)), i64 (rdN 4 (p4 b)), texts (rdV (rdN 1 (p5 b)) (p6 b)), i64 0, i64 0, i64 0, i64 0, i64 0, i64 0, bytes []] := rfl
  have hpe : pe b = rdVs (rdN 1 (p5 b)) (p6 b) := rfl
  unfold RecS.v at cm ⊢
  rw [hq] at cm ⊢
  have hz : RecS.zero.cells = [i64 0, i64 0, i64 0, i64 0, i64 0, texts [], i64 0, i64 0, i64 0, i64 0, i64 0, i64 0, bytes []] := rfl
  generalize hg1 : rdN 1 (g1 b) = n1 at *
  generalize hg2 : rdN 2 (p2 b) = n2 at *
  generalize hg3 : rdN 1 (p3 b) = n3 at *
  generalize hg4 : rdN 4 (p4 b) = n4 at *
  generalize hg5 : rdN 1 (p5 b) = n5 at *
  refine en Try.func27 (hfr := by (simp only [Try.ntmps27, go_sem, Nat.reduceSub, Nat.reduceAdd]; rfl)) ?_
  repeat' (first | exact absurd hb Bool.false_ne_true | exact absurd hb.symm Bool.false_ne_true | refine W.seq ?_ | refine W.block ?_ | (refine rgx [1] [] ?_; intro K hK) | (refine drx [1] [] ?_; intro K hK) | refine oq ?_ | refine sk ?_ | (refine nk hK ?_; clear hK K) | (refine nd hK ?_; clear hK K) | refine sp ?_ | refine ex ?_ | (refine gs (fun hb => ?_) (fun hb => ?_) <;> replace hb := nb hb <;> try exact noB hb) | (refine cd (fun hb => ?_) (fun hb => ?_) <;> replace hb := nb hb <;> try exact noB hb) | (with_reducible refine Exists.intro _ (And.intro rfl ?_)) | ((with_reducible refine And.intro ?_ ?_); (focus exact sdA)) | fail)
  refine W.ent (Ent.more 1) ?_
  repeat' (first | exact absurd hb Bool.false_ne_true | exact absurd hb.symm Bool.false_ne_true | refine W.seq ?_ | refine W.block ?_ | (refine rgx [4] [] ?_; intro K hK) | (refine drx [4] [] ?_; intro K hK) | refine cle [1] 1 (cr) ?_ | refine cle [1] 0 (c0) ?_ | refine oq ?_ | refine sk ?_ | (refine nk hK ?_; clear hK K) | (refine nd hK ?_; clear hK K) | refine sp ?_ | refine ex ?_ | (refine gs (fun hb => ?_) (fun hb => ?_) <;> replace hb := nb hb <;> try exact noB hb) | (refine cd (fun hb => ?_) (fun hb => ?_) <;> replace hb := nb hb <;> try exact noB hb) | (with_reducible refine Exists.intro _ (And.intro rfl ?_)) | ((with_reducible refine And.intro ?_ ?_); (focus exact sdA)) | fail)
  refine W.ent (Ent.more 1) ?_
  repeat' (first | exact absurd hb Bool.false_ne_true | exact absurd hb.symm Bool.false_ne_true | refine W.seq ?_ | refine W.block ?_ | (refine rgx [5] [] ?_; intro K hK) | (refine drx [5] [] ?_; intro K hK) | refine cle [2, 3] 1 (fieldz1) ?_ | refine oq ?_ | refine sk ?_ | (refine nk hK ?_; clear hK K) | (refine nd hK ?_; clear hK K) | refine sp ?_ | refine ex ?_ | (refine gs (fun hb => ?_) (fun hb => ?_) <;> replace hb := nb hb <;> try exact noB hb) | (refine cd (fun hb => ?_) (fun hb => ?_) <;> replace hb := nb hb <;> try exact noB hb) | (with_reducible refine Exists.intro _ (And.intro rfl ?_)) | ((with_reducible refine And.intro ?_ ?_); (focus exact sdA)) | fail)
  refine W.lp (ι := Nat) (fun i => (ay 2 (.ptr 0 0 :: i64 0 :: .ptr 1 0 :: .fn (.func 87) [.ptr 1 0] [] :: .fn (.func 88) [.ptr 1 0] [] :: .ptr 2 0 :: ay 12 (.row 3 0 4 4 :: i64 4 :: i64 i :: ay 50 [])))) (fun i => [.cells 35 (zc 0), at5 (rdS (g1 b)) (rdS (p2 b)) (rdS (p3 b)) (rdS (p4 b)) (rdS (p5 b)) i, .cells 35 (at5 (zc 1) [i64 1, i64 (n1 - 3), i64 0, i64 0, i64 0, .nil, i64 0, i64 0, i64 0, i64 0, i64 0, i64 0, .nil] [i64 1, i64 (n1 - 3), i64 n2, i64 0, i64 0, .nil, i64 0, i64 0, i64 0, i64 0, i64 0, i64 0, .nil] [i64 1, i64 (n1 - 3), i64 n2, i64 n3, i64 0, .nil, i64 0, i64 0, i64 0, i64 0, i64 0, i64 0, .nil] [i64 1, i64 (n1 - 3), i64 n2, i64 n3, i64 n4, .nil, i64 0, i64 0, i64 0, i64 0, i64 0, i64 0, .nil] i), .cells 144 (flds1 2)]) (fun i => i ≤ 4) (fun i => 4 - i) 0 (by decide) (Ent.to ?_ rfl) ?_
  · skip
    exact wkA
  · intro i hi
    obtain rfl | rfl | rfl | rfl | rfl : i = 0 ∨ i = 1 ∨ i = 2 ∨ i = 3 ∨ i = 4 := by omega
    all_goals simp only [at5]
    · skip
      repeat' (first | exact absurd hb Bool.false_ne_true | exact absurd hb.symm Bool.false_ne_true | refine W.seq ?_ | refine W.block ?_ | (refine rg [] ?_; intro K hK) | (refine dr [] ?_; intro K hK) | refine cle [1] 0 (c1) ?_ | refine oq ?_ | refine sk ?_ | (refine nk hK ?_; clear hK K) | (refine nd hK ?_; clear hK K) | refine sp ?_ | refine ex ?_ | (refine gs (fun hb => ?_) (fun hb => ?_) <;> replace hb := nb hb <;> try exact noB hb) | (refine cd (fun hb => ?_) (fun hb => ?_) <;> replace hb := nb hb <;> try exact noB hb) | (with_reducible refine Exists.intro _ (And.intro rfl ?_)) | ((with_reducible refine And.intro ?_ ?_); (focus exact sdA)) | fail)
      (try simp only [Int.sub_zero])
      refine nx 1 (by decide) (by decide) (sb [0, 1, 2, 3] _ _ (hf := ?_))
      exact wkA
    · skip
      repeat' (first | exact absurd hb Bool.false_ne_true | exact absurd hb.symm Bool.false_ne_true | refine W.seq ?_ | refine W.block ?_ | (refine rg [] ?_; intro K hK) | (refine dr [] ?_; intro K hK) | refine cle [1] 0 (c2) ?_ | refine oq ?_ | refine sk ?_ | (refine nk hK ?_; clear hK K) | (refine nd hK ?_; clear hK K) | refine sp ?_ | refine ex ?_ | (refine gs (fun hb => ?_) (fun hb => ?_) <;> replace hb := nb hb <;> try exact noB hb) | (refine cd (fun hb => ?_) (fun hb => ?_) <;> replace hb := nb hb <;> try exact noB hb) | (with_reducible refine Exists.intro _ (And.intro rfl ?_)) | ((with_reducible refine And.intro ?_ ?_); (focus exact sdA)) | fail)
      (try simp only [Int.sub_zero])
      refine nx 2 (by decide) (by decide) (sb [0, 1, 2, 3] _ _ (hf := ?_))
      exact wkA
    · skip
      repeat' (first | exact absurd hb Bool.false_ne_true | exact absurd hb.symm Bool.false_ne_true | refine W.seq ?_ | refine W.block ?_ | (refine rg [] ?_; intro K hK) | (refine dr [] ?_; intro K hK) | refine cle [1] 0 (c3) ?_ | refine oq ?_ | refine sk ?_ | (refine nk hK ?_; clear hK K) | (refine nd hK ?_; clear hK K) | refine sp ?_ | refine ex ?_ | (refine gs (fun hb => ?_) (fun hb => ?_) <;> replace hb := nb hb <;> try exact noB hb) | (refine cd (fun hb => ?_) (fun hb => ?_) <;> replace hb := nb hb <;> try exact noB hb) | (with_reducible refine Exists.intro _ (And.intro rfl ?_)) | ((with_reducible refine And.intro ?_ ?_); (focus exact sdA)) | fail)
      (try simp only [Int.sub_zero])
      refine nx 3 (by decide) (by decide) (sb [0, 1, 2, 3] _ _ (hf := ?_))
      exact wkA
    · skip
      repeat' (first | exact absurd hb Bool.false_ne_true | exact absurd hb.symm Bool.false_ne_true | refine W.seq ?_ | refine W.block ?_ | (refine rg [] ?_; intro K hK) | (refine dr [] ?_; intro K hK) | refine cle [1] 0 (c4) ?_ | refine oq ?_ | refine sk ?_ | (refine nk hK ?_; clear hK K) | (refine nd hK ?_; clear hK K) | refine sp ?_ | refine ex ?_ | (refine gs (fun hb => ?_) (fun hb => ?_) <;> replace hb := nb hb <;> try exact noB hb) | (refine cd (fun hb => ?_) (fun hb => ?_) <;> replace hb := nb hb <;> try exact noB hb) | (with_reducible refine Exists.intro _ (And.intro rfl ?_)) | ((with_reducible refine And.intro ?_ ?_); (focus exact sdA)) | fail)
      (try simp only [Int.sub_zero])
      refine nx 4 (by decide) (by decide) (sb [0, 1, 2, 3] _ _ (hf := ?_))
      exact wkA
    · skip
      repeat' (first | exact absurd hb Bool.false_ne_true | exact absurd hb.symm Bool.false_ne_true | refine W.seq ?_ | refine W.block ?_ | (refine rgx [12] [] ?_; intro K hK) | (refine drx [12] [] ?_; intro K hK) | refine cle [1] 0 (c5) ?_ | refine oq ?_ | refine sk ?_ | (refine nk hK ?_; clear hK K) | (refine nd hK ?_; clear hK K) | refine sp ?_ | refine ex ?_ | (refine gs (fun hb => ?_) (fun hb => ?_) <;> replace hb := nb hb <;> try exact noB hb) | (refine cd (fun hb => ?_) (fun hb => ?_) <;> replace hb := nb hb <;> try exact noB hb) | (with_reducible refine Exists.intro _ (And.intro rfl ?_)) | ((with_reducible refine And.intro ?_ ?_); (focus exact sdA)) | fail)
      refine W.ent (Ent.more 1) ?_
      refine W.lp (ι := Nat) (fun i => (ay 2 (.ptr 0 0 :: i64 0 :: .ptr 1 0 :: .fn (.func 87) [.ptr 1 0] [] :: .fn (.func 88) [.ptr 1 0] [] :: .ptr 2 0 :: ay 31 (i64 1 :: ay 3 (u64 n5 :: u64 i :: ay 28 []))))) (fun i => [.cells 35 (zc 0), rdS (rdVs i (p6 b)), .cells 35 [i64 1, i64 (n1 - 3), i64 n2, i64 n3, i64 n4, vcell (rdV i (p6 b)) 3, i64 0, i64 0, i64 0, i64 0, i64 0, i64 0, .nil], vcap (rdV i (p6 b))]) (fun i => i ≤ n5) (fun i => n5 - i) 0 (Nat.zero_le _) (sb [0, 1, 2, 4] _ _ (hf := ?_)) ?_
      · skip
        exact wkA
      · intro i hi
        have ct := rtext_fn (rdVs i (p6 b))
        have cc := clone_fn (rdT (rdVs i (p6 b))) (by have := rdT_le (rdVs i (p6 b)); omega)
        have hl := rdV_len i (p6 b)
        obtain rfl | ⟨j, rfl⟩ : i = 0 ∨ ∃ j, i = j + 1 := by cases i with | zero => exact .inl rfl | succ j => exact .inr ⟨j, rfl⟩
        · rw [vcell_0, vcap_0]
          repeat' (first | exact absurd hb Bool.false_ne_true | exact absurd hb.symm Bool.false_ne_true | refine W.seq ?_ | refine W.block ?_ | (refine rgx [17] [] ?_; intro K hK) | (refine drx [17] [] ?_; intro K hK) | refine cle [1] 0 (ct) ?_ | refine cl (cc) ?_ | refine oq ?_ | refine sk ?_ | (refine nk hK ?_; clear hK K) | (refine nd hK ?_; clear hK K) | refine sp ?_ | refine ex ?_ | (refine gs (fun hb => ?_) (fun hb => ?_) <;> replace hb := nb hb <;> try exact noB hb) | (refine cd (fun hb => ?_) (fun hb => ?_) <;> replace hb := nb hb <;> try exact noB hb) | (with_reducible refine Exists.intro _ (And.intro rfl ?_)) | ((with_reducible refine And.intro ?_ ?_); (focus exact sdA)) | fail)
          · refine nx 1 (by omega) (by omega) ?_
            simp only [vcell_s, vcap_s]
            refine sb [0, 1, 2, 5] _ _ (hf := ?_)
            exact wkA
          · obtain rfl : n5 = 0 := by omega
            rw [← hpe]
            refine W.ent (sb [0, 1, 2] ((ay 2 (.ptr 0 0 :: i64 0 :: .ptr 1 0 :: ay 2 (.ptr 2 0 :: ay 65 [])))) [.cells 35 (zc 0), rdS (pe b), .cells 35 [i64 1, i64 (n1 - 3), i64 n2, i64 n3, i64 n4, texts (rdV 0 (p6 b)), i64 0, i64 0, i64 0, i64 0, i64 0, i64 0, bytes []]] (hf := ?_)) ?_
            · skip
              exact wkA
            repeat' (first | exact absurd hb Bool.false_ne_true | exact absurd hb.symm Bool.false_ne_true | refine W.seq ?_ | refine W.block ?_ | (refine rg [] ?_; intro K hK) | (refine dr [] ?_; intro K hK) | refine cle [1] 0 (ce) ?_ | refine cl (cm) ?_ | refine oq ?_ | refine sk ?_ | (refine nk hK ?_; clear hK K) | (refine nd hK ?_; clear hK K) | refine sp ?_ | refine ex ?_ | (refine gs (fun hb => ?_) (fun hb => ?_) <;> replace hb := nb hb <;> try exact noB hb) | (refine cd (fun hb => ?_) (fun hb => ?_) <;> replace hb := nb hb <;> try exact noB hb) | (with_reducible refine Exists.intro _ (And.intro rfl ?_)) | ((with_reducible refine And.intro ?_ ?_); (focus exact sdA)) | fail)
            · rw [if_neg (fun h => ‹¬ (pr b).may› h.2), hz]
              all_goals (refine rt ?_; refine fin ?_; exact wqA)
            · rw [if_pos ⟨‹_›, ‹_›⟩]
              all_goals (refine rt ?_; refine fin ?_; exact wqA)
            · rw [if_neg (fun h => by simp_all), hz]
              all_goals (refine rt ?_; refine fin ?_; exact wqA)
        · rw [vcell_s, vcap_s]
          repeat' (first | exact absurd hb Bool.false_ne_true | exact absurd hb.symm Bool.false_ne_true | refine W.seq ?_ | refine W.block ?_ | (refine rgx [17] [] ?_; intro K hK) | (refine drx [17] [] ?_; intro K hK) | refine cle [1] 0 (ct) ?_ | refine cl (cc) ?_ | refine oq ?_ | refine sk ?_ | (refine nk hK ?_; clear hK K) | (refine nd hK ?_; clear hK K) | refine sp ?_ | refine ex ?_ | (refine gs (fun hb => ?_) (fun hb => ?_) <;> replace hb := nb hb <;> try exact noB hb) | (refine cd (fun hb => ?_) (fun hb => ?_) <;> replace hb := nb hb <;> try exact noB hb) | (with_reducible refine Exists.intro _ (And.intro rfl ?_)) | ((with_reducible refine And.intro ?_ ?_); (focus exact sdA)) | fail)
          · rw [rdV_dtext]
            refine nx (j + 1 + 1) (by omega) (by omega) ?_
            simp only [vcell_s, vcap_s]
            refine sb [0, 1, 2, 3] _ _ (hf := ?_)
            exact wkA
          · obtain rfl : n5 = j + 1 := by omega
            rw [← hpe]
            refine W.ent (sb [0, 1, 2] ((ay 2 (.ptr 0 0 :: i64 0 :: .ptr 1 0 :: ay 2 (.ptr 2 0 :: ay 65 [])))) [.cells 35 (zc 0), rdS (pe b), .cells 35 [i64 1, i64 (n1 - 3), i64 n2, i64 n3, i64 n4, texts (rdV (j + 1) (p6 b)), i64 0, i64 0, i64 0, i64 0, i64 0, i64 0, bytes []]] (hf := ?_)) ?_
            · skip
              exact wkA
            repeat' (first | exact absurd hb Bool.false_ne_true | exact absurd hb.symm Bool.false_ne_true | refine W.seq ?_ | refine W.block ?_ | (refine rg [] ?_; intro K hK) | (refine dr [] ?_; intro K hK) | refine cle [1] 0 (ce) ?_ | refine cl (cm) ?_ | refine oq ?_ | refine sk ?_ | (refine nk hK ?_; clear hK K) | (refine nd hK ?_; clear hK K) | refine sp ?_ | refine ex ?_ | (refine gs (fun hb => ?_) (fun hb => ?_) <;> replace hb := nb hb <;> try exact noB hb) | (refine cd (fun hb => ?_) (fun hb => ?_) <;> replace hb := nb hb <;> try exact noB hb) | (with_reducible refine Exists.intro _ (And.intro rfl ?_)) | ((with_reducible refine And.intro ?_ ?_); (focus exact sdA)) | fail)
            · rw [if_neg (fun h => ‹¬ (pr b).may› h.2), hz]
              all_goals (refine rt ?_; refine fin ?_; exact wqA)
            · rw [if_pos ⟨‹_›, ‹_›⟩]
              all_goals (refine rt ?_; refine fin ?_; exact wqA)
            · rw [if_neg (fun h => by simp_all), hz]
              all_goals (refine rt ?_; refine fin ?_; exact wqA)
end Go.Proofs.Ytpmbeldmclcjlaa.Vs
