/- patterns: sets. -/
import Derived.Test.YtgebfcdcpmmgnaaVnB
set_option linter.unusedVariables false
set_option linter.unusedSimpArgs false
namespace Go.Proofs.Ytgebfcdcpmmgnaa.Vs
open Go.RowKit
set_option maxRecDepth 100000
theorem esc_lt (s : List UInt8) (pos : Nat) : pos ≤ (escS s pos).2.2 ∧ ((escS s pos).2.1 = true → pos < (escS s pos).2.2 ∧ (escS s pos).2.2 ≤ s.length) ∧ (escS s pos).2.2 ≤ pos + 1 := by
  unfold escS
  by_cases h : pos < s.length ∧ (escI (s.getD pos 0) = true ∨ plainB (s.getD pos 0) = true)
  · rw [if_pos h]
    refine ⟨?_, ?_, ?_⟩ <;> (try dsimp only) <;> (try intro _) <;> omega
  · rw [if_neg h]
    refine ⟨?_, ?_, ?_⟩ <;> (try dsimp only) <;> (try intro h) <;> first | omega | cases h
theorem one_lt (s : List UInt8) (pos : Nat) : pos ≤ (oneS s pos).2.2 ∧ ((oneS s pos).2.1 = true → pos < (oneS s pos).2.2 ∧ (oneS s pos).2.2 ≤ s.length) ∧ (oneS s pos).2.2 ≤ pos + 2 := by
  have he := esc_lt s (pos + 1)
  unfold oneS
  by_cases h : pos < s.length
  · rw [if_pos h]
    by_cases h1 : (s.getD pos 0).toNat = 92
    · rw [if_pos h1]
      exact ⟨by omega, fun h => by have := he.2.1 h; omega, by omega⟩
    rw [if_neg h1]
    by_cases h2 : (s.getD pos 0).toNat = 93 ∨ (s.getD pos 0).toNat = 45 ∨ (s.getD pos 0).toNat = 94
    · rw [if_pos h2]
      refine ⟨?_, ?_, ?_⟩ <;> (try dsimp only) <;> (try intro h) <;> first | omega | cases h
    · rw [if_neg h2]
      refine ⟨?_, ?_, ?_⟩ <;> (try dsimp only) <;> (try intro _) <;> omega
  · rw [if_neg h]
    refine ⟨?_, ?_, ?_⟩ <;> (try dsimp only) <;> (try intro h) <;> first | omega | cases h
/-- One span of a set. -/
def spanS (s : List UInt8) (pos : Nat) : Option SpanS × Nat :=
  if (oneS s pos).2.1 = false then (none, (oneS s pos).2.2)
  else if (oneS s pos).2.2 < s.length ∧ (s.getD (oneS s pos).2.2 0).toNat = 45 then
    (if (oneS s ((oneS s pos).2.2 + 1)).2.1 = false then (none, (oneS s ((oneS s pos).2.2 + 1)).2.2)
    else if (oneS s ((oneS s pos).2.2 + 1)).1.toNat < (oneS s pos).1.toNat then (none, (oneS s ((oneS s pos).2.2 + 1)).2.2 - 1)
    else (some ⟨(oneS s pos).1, (oneS s ((oneS s pos).2.2 + 1)).1⟩, (oneS s ((oneS s pos).2.2 + 1)).2.2))
  else (some ⟨(oneS s pos).1, (oneS s pos).1⟩, (oneS s pos).2.2)
def setS (s : List UInt8) : Nat → Nat → List SpanS → Option (List SpanS) × Nat
  | 0, pos, _ => (none, pos)
  | n + 1, pos, acc => if acc ≠ [] ∧ pos < s.length ∧ (s.getD pos 0).toNat = 93 then (some acc, pos + 1) else match spanS s pos with
    | (none, q) => (none, q)
    | (some x, q) => setS s n q (acc ++ [x])
def caretB (s : List UInt8) (pos : Nat) : Bool := decide (pos < s.length) && decide ((s.getD pos 0).toNat = 94)
def caretP (s : List UInt8) (pos : Nat) : Nat := if caretB s pos then pos + 1 else pos
/-- A set, behind its bracket. -/
def setR (s : List UInt8) (pos : Nat) : Option OpS × Nat :=
  (((setS s (s.length + 1) (caretP s pos) []).1).map fun l => ⟨1, caretB s pos, l⟩, (setS s (s.length + 1) (caretP s pos) []).2)
abbrev setO (s : List UInt8) (pos : Nat) (out : List OpS) (k : Nat) (l : List LevS) (p : LevS) (nt : Bool) (acc : List SpanS) : List Ob := [.cells 157 [bytes s, i64 pos, .own 3 (out.map opD) 1, .hd 2 k (l.length + 1)], .cap 138 3 out.length, .grw 160 2 k (l.length + 1) (levV l p), .cells 138 [i64 0, bool false, .nil], .cells 138 [i64 1, bool nt, .own 2 (acc.map spanD) 5], .cap 151 2 acc.length]
abbrev setN (s : List UInt8) (pos : Nat) (out : List OpS) (k : Nat) (l : List LevS) (p : LevS) (nt : Bool) : List Ob := [.cells 157 [bytes s, i64 pos, .own 3 (out.map opD) 1, .hd 2 k (l.length + 1)], .cap 138 3 out.length, .grw 160 2 k (l.length + 1) (levV l p), .cells 138 [i64 0, bool false, .nil], .cells 138 [i64 1, bool nt, .nil], .fresh]
abbrev setF : List V := (.ptr 0 0 :: ay 1 (.ptr 3 0 :: ay 1 (.ptr 4 0 :: ay 138 [])))
set_option maxHeartbeats 8000000 in
theorem set_fn (s : List UInt8) (pos : Nat) (out : List OpS) (k : Nat) (l : List LevS) (p : LevS) (hq : pos ≤ s.length ∧ s.length ≤ 10000) : Fn Try.prog 128 [.ptr 0 0] (rgr s pos out k l p) (.tup [.agg [i64 ((setR s pos).1.getD OpS.zero).kind, bool ((setR s pos).1.getD OpS.zero).not, .d (spansD ((setR s pos).1.getD OpS.zero).spans)], bool (setR s pos).1.isSome]) (rgr s (setR s pos).2 out k l p) := by
  unfold setR
  generalize hR : setS s (s.length + 1) (caretP s pos) [] = R
  have hcp : pos ≤ caretP s pos ∧ caretP s pos ≤ s.length := by
    unfold caretP
    split
    · rename_i h
      unfold caretB at h
      simp only [Bool.and_eq_true, decide_eq_true_eq] at h
      omega
    · omega
  refine en Try.func128 (hfr := by (simp only [Try.ntmps128, go_sem, Nat.reduceSub, Nat.reduceAdd]; rfl)) ?_
  repeat' (first | exact absurd hb Bool.false_ne_true | exact absurd hb.symm Bool.false_ne_true | refine W.seq ?_ | refine W.block ?_ | (refine rgx [2] [] ?_; intro K hK) | (refine drx [2] [] ?_; intro K hK) | refine oq ?_ | refine sk ?_ | (refine nk hK ?_; clear hK K) | (refine nd hK ?_; clear hK K) | refine sp ?_ | refine ex ?_ | (refine gs (fun hb => ?_) (fun hb => ?_) <;> replace hb := nb hb <;> try exact noB hb) | (refine cd (fun hb => ?_) (fun hb => ?_) <;> replace hb := nb hb <;> try exact noB hb) | (with_reducible refine Exists.intro _ (And.intro rfl ?_)) | ((with_reducible refine And.intro ?_ ?_); (focus exact sdA)) | fail)
  refine W.jn ((.ptr 0 0 :: ay 1 (.ptr 3 0 :: ay 1 (.ptr 4 0 :: ay 26 (bool (caretB s pos) :: ay 111 []))))) [.cells 157 [bytes s, i64 pos, .own 3 (out.map opD) 1, .hd 2 k (l.length + 1)], .cap 138 3 out.length, .grw 160 2 k (l.length + 1) (levV l p), .cells 138 [i64 0, bool false, .nil], .cells 138 [i64 1, bool false, .nil]] ?_ ?_
  · skip
    repeat' (first | exact absurd hb Bool.false_ne_true | exact absurd hb.symm Bool.false_ne_true | refine W.seq ?_ | refine W.block ?_ | (refine rg [] ?_; intro K hK) | (refine dr [] ?_; intro K hK) | refine oq ?_ | refine sk ?_ | (refine nk hK ?_; clear hK K) | (refine nd hK ?_; clear hK K) | refine sp ?_ | refine ex ?_ | (refine gs (fun hb => ?_) (fun hb => ?_) <;> replace hb := nb hb <;> try exact noB hb) | (refine cd (fun hb => ?_) (fun hb => ?_) <;> replace hb := nb hb <;> try exact noB hb) | (with_reducible refine Exists.intro _ (And.intro rfl ?_)) | ((with_reducible refine And.intro ?_ ?_); (focus exact sdA)) | fail)
    all_goals refine Ent.to ?_ rfl
    all_goals (repeat' (first | exact WkL.nil | refine WkL.cons ?_ ?_ | exact Wk.any | exact Wk.rfl | refine Wk.bool ?_))
    all_goals (unfold caretB; rw [Bool.eq_iff_iff]; simp only [Bool.and_eq_true, decide_eq_true_eq, beq_iff_eq, Bool.false_eq_true, false_iff]; omega)
  have hcb0 : caretB s pos = true ∧ caretP s pos = pos + 1 ∨ caretB s pos = false ∧ caretP s pos = pos := by
    unfold caretP
    cases caretB s pos with
    | true => exact .inl ⟨rfl, rfl⟩
    | false => exact .inr ⟨rfl, rfl⟩
  rcases hcb0 with ⟨hcb, hcp2⟩ | ⟨hcb, hcp2⟩
  case' inl =>
    have hcb2 : ¬ caretB s pos = false := by rw [hcb]; decide
    repeat' (first | exact absurd hb Bool.false_ne_true | exact absurd hb.symm Bool.false_ne_true | refine W.seq ?_ | refine W.block ?_ | (refine rgx [5] [] ?_; intro K hK) | (refine drx [5] [] ?_; intro K hK) | refine oq ?_ | refine sk ?_ | (refine nk hK ?_; clear hK K) | (refine nd hK ?_; clear hK K) | refine sp ?_ | refine ex ?_ | (refine gs (fun hb => ?_) (fun hb => ?_) <;> replace hb := nb hb <;> try exact noB hb) | (refine cd (fun hb => ?_) (fun hb => ?_) <;> replace hb := nb hb <;> try exact noB hb) | (with_reducible refine Exists.intro _ (And.intro rfl ?_)) | ((with_reducible refine And.intro ?_ ?_); (focus exact sdA)) | fail)
    refine W.ent (Ent.more 1) ?_
    refine W.ent (Ent.to (fr' := setF) (σ' := setN s (caretP s pos) out k l p (caretB s pos)) ?_ (by rw [hcb, hcp2]; rfl)) ?_
    · skip
      exact wkA
    clear hcb2
  case' inr =>
    have hcb2 : ¬ caretB s pos = true := by rw [hcb]; decide
    repeat' (first | exact absurd hb Bool.false_ne_true | exact absurd hb.symm Bool.false_ne_true | refine W.seq ?_ | refine W.block ?_ | (refine rgx [5] [] ?_; intro K hK) | (refine drx [5] [] ?_; intro K hK) | refine oq ?_ | refine sk ?_ | (refine nk hK ?_; clear hK K) | (refine nd hK ?_; clear hK K) | refine sp ?_ | refine ex ?_ | (refine gs (fun hb => ?_) (fun hb => ?_) <;> replace hb := nb hb <;> try exact noB hb) | (refine cd (fun hb => ?_) (fun hb => ?_) <;> replace hb := nb hb <;> try exact noB hb) | (with_reducible refine Exists.intro _ (And.intro rfl ?_)) | ((with_reducible refine And.intro ?_ ?_); (focus exact sdA)) | fail)
    refine W.ent (Ent.more 1) ?_
    refine W.ent (Ent.to (fr' := setF) (σ' := setN s (caretP s pos) out k l p (caretB s pos)) ?_ (by rw [hcb, hcp2]; rfl)) ?_
    · skip
      exact wkA
    clear hcb2
  all_goals clear hcp2 hcb
  all_goals (generalize caretB s pos = nt)
  all_goals (generalize caretP s pos = P0 at hR hcp)
  all_goals skip
  all_goals
    refine W.ent (Ent.nilOwnC (i := 5) (j := 4) (q := 2) (e := 151) (us := [i64 1, bool nt, .own 2 [] 5]) rfl rfl (by decide) ?_) ?_
    · skip
      repeat' (first | exact NoL.nil | refine NoL.own ?_ | refine NoL.cons ?_ ?_ | exact Wk.any | exact Wk.rfl)
    refine W.lp (ι := Nat × List SpanS × Nat) (fun _ => setF) (fun x => setO s x.1 out k l p nt x.2.1) (fun x => x.1 ≤ s.length ∧ s.length < x.1 + x.2.2 ∧ x.2.1.length ≤ x.1 ∧ setS s x.2.2 x.1 x.2.1 = R) (fun x => x.2.2) (P0, [], s.length + 1) ⟨hcp.2, by simp only; omega, Nat.zero_le _, hR⟩ (Ent.to ?_ rfl) ?_
    · skip
      exact wkA
    rintro ⟨q, acc, n⟩ ⟨hq1, hn, hal, hS⟩
    simp only at hq1 hn hal hS
    dsimp only
    cases n with
    | zero => omega
    | succ m => ?_
  all_goals
    unfold setS at hS
    by_cases hex : acc ≠ [] ∧ q < s.length ∧ (s.getD q 0).toNat = 93
    · rw [if_pos hex] at hS
      subst hS
      obtain ⟨h1, h2, h3⟩ := hex
      have h4 : ¬ acc.length = 0 := fun h => h1 (List.eq_nil_of_length_eq_zero h)
      repeat' (first | exact absurd hb Bool.false_ne_true | exact absurd hb.symm Bool.false_ne_true | refine W.seq ?_ | refine W.block ?_ | (refine rg [] ?_; intro K hK) | (refine dr [] ?_; intro K hK) | refine oq ?_ | refine sk ?_ | (refine nk hK ?_; clear hK K) | (refine nd hK ?_; clear hK K) | refine sp ?_ | refine ex ?_ | (refine gs (fun hb => ?_) (fun hb => ?_) <;> replace hb := nb hb <;> try exact noB hb) | (refine cd (fun hb => ?_) (fun hb => ?_) <;> replace hb := nb hb <;> try exact noB hb) | (with_reducible refine Exists.intro _ (And.intro rfl ?_)) | ((with_reducible refine And.intro ?_ ?_); (focus exact sdA)) | fail)
      all_goals (refine rt ?_; refine fin ?_; exact wqA)
    · rw [if_neg hex] at hS
      have hex2 : acc.length = 0 ∨ s.length ≤ q ∨ ¬ (s.getD q 0).toNat = 93 := by
        rcases Nat.eq_zero_or_pos acc.length with h | h
        · exact .inl h
        · have h1 : acc ≠ [] := fun e => by rw [e] at h; simp at h
          by_cases h2 : s.length ≤ q
          · exact .inr (.inl h2)
          · exact .inr (.inr fun h3 => hex ⟨h1, by omega, h3⟩)
      clear hex
      repeat' (first | exact absurd hb Bool.false_ne_true | exact absurd hb.symm Bool.false_ne_true | refine W.seq ?_ | refine W.block ?_ | (refine rgx [5] [] ?_; intro K hK) | (refine drx [5] [] ?_; intro K hK) | refine oq ?_ | refine sk ?_ | (refine nk hK ?_; clear hK K) | (refine nd hK ?_; clear hK K) | refine sp ?_ | refine ex ?_ | (refine gs (fun hb => ?_) (fun hb => ?_) <;> replace hb := nb hb <;> try exact noB hb) | (refine cd (fun hb => ?_) (fun hb => ?_) <;> replace hb := nb hb <;> try exact noB hb) | (with_reducible refine Exists.intro _ (And.intro rfl ?_)) | ((with_reducible refine And.intro ?_ ?_); (focus exact sdA)) | fail)
      refine W.jn ((.ptr 0 0 :: ay 1 (.ptr 3 0 :: ay 1 (.ptr 4 0 :: ay 63 (bool true :: ay 74 []))))) (setO s q out k l p nt acc) ?_ ?_
      · skip
        repeat' (first | exact absurd hb Bool.false_ne_true | exact absurd hb.symm Bool.false_ne_true | refine W.seq ?_ | refine W.block ?_ | (refine rg [] ?_; intro K hK) | (refine dr [] ?_; intro K hK) | refine oq ?_ | refine sk ?_ | (refine nk hK ?_; clear hK K) | (refine nd hK ?_; clear hK K) | refine sp ?_ | refine ex ?_ | (refine gs (fun hb => ?_) (fun hb => ?_) <;> replace hb := nb hb <;> try exact noB hb) | (refine cd (fun hb => ?_) (fun hb => ?_) <;> replace hb := nb hb <;> try exact noB hb) | (with_reducible refine Exists.intro _ (And.intro rfl ?_)) | ((with_reducible refine And.intro ?_ ?_); (focus exact sdA)) | fail)
        all_goals refine Ent.to ?_ rfl
        all_goals (repeat' (first | exact WkL.nil | refine WkL.cons ?_ ?_ | exact Wk.any | exact Wk.rfl | refine Wk.bool ?_))
        all_goals (rw [bne_iff_ne, ne_eq]; omega)
      have c1 := one_fn s q out k l p (by omega)
      have k1 := one_lt s q
      unfold spanS at hS
      generalize oneS s q = r1 at *
      obtain ⟨a, is, q1⟩ := r1
      dsimp only at c1 k1 hS
      cases is with
      | false =>
        rw [if_pos rfl] at hS
        subst hS
        repeat' (first | exact absurd hb Bool.false_ne_true | exact absurd hb.symm Bool.false_ne_true | refine W.seq ?_ | refine W.block ?_ | (refine rg [] ?_; intro K hK) | (refine dr [] ?_; intro K hK) | refine cle [0, 1, 2] 0 (c1) ?_ | refine oq ?_ | refine sk ?_ | (refine nk hK ?_; clear hK K) | (refine nd hK ?_; clear hK K) | refine sp ?_ | refine ex ?_ | (refine gs (fun hb => ?_) (fun hb => ?_) <;> replace hb := nb hb <;> try exact noB hb) | (refine cd (fun hb => ?_) (fun hb => ?_) <;> replace hb := nb hb <;> try exact noB hb) | (with_reducible refine Exists.intro _ (And.intro rfl ?_)) | ((with_reducible refine And.intro ?_ ?_); (focus exact sdA)) | fail)
        all_goals (refine rt ?_; refine fin ?_; exact wqA)
      | true =>
        rw [if_neg (by decide)] at hS
        obtain ⟨k2, k3, k4⟩ := k1
        have k3 := k3 rfl
        by_cases hd : q1 < s.length ∧ (s.getD q1 0).toNat = 45
        · rw [if_pos hd] at hS
          obtain ⟨d1, d2⟩ := hd
          have c2 := one_fn s (q1 + 1) out k l p (by omega)
          have j1 := one_lt s (q1 + 1)
          generalize oneS s (q1 + 1) = r2 at *
          obtain ⟨b, is2, q2⟩ := r2
          dsimp only at c2 j1 hS
          cases is2 with
          | false =>
            rw [if_pos rfl] at hS
            subst hS
            repeat' (first | exact absurd hb Bool.false_ne_true | exact absurd hb.symm Bool.false_ne_true | refine W.seq ?_ | refine W.block ?_ | (refine rg [] ?_; intro K hK) | (refine dr [] ?_; intro K hK) | refine cle [0, 1, 2] 0 (c1) ?_ | refine cle [0, 1, 2] 0 (c2) ?_ | refine oq ?_ | refine sk ?_ | (refine nk hK ?_; clear hK K) | (refine nd hK ?_; clear hK K) | refine sp ?_ | refine ex ?_ | (refine gs (fun hb => ?_) (fun hb => ?_) <;> replace hb := nb hb <;> try exact noB hb) | (refine cd (fun hb => ?_) (fun hb => ?_) <;> replace hb := nb hb <;> try exact noB hb) | (with_reducible refine Exists.intro _ (And.intro rfl ?_)) | ((with_reducible refine And.intro ?_ ?_); (focus exact sdA)) | fail)
            all_goals (refine rt ?_; refine fin ?_; exact wqA)
          | true =>
            rw [if_neg (by decide)] at hS
            obtain ⟨j2, j3, j4⟩ := j1
            have j3 := j3 rfl
            by_cases hlt : b.toNat < a.toNat
            · rw [if_pos hlt] at hS
              subst hS
              repeat' (first | exact absurd hb Bool.false_ne_true | exact absurd hb.symm Bool.false_ne_true | refine W.seq ?_ | refine W.block ?_ | (refine rg [] ?_; intro K hK) | (refine dr [] ?_; intro K hK) | refine cle [0, 1, 2] 0 (c1) ?_ | refine cle [0, 1, 2] 0 (c2) ?_ | refine oq ?_ | refine sk ?_ | (refine nk hK ?_; clear hK K) | (refine nd hK ?_; clear hK K) | refine sp ?_ | refine ex ?_ | (refine gs (fun hb => ?_) (fun hb => ?_) <;> replace hb := nb hb <;> try exact noB hb) | (refine cd (fun hb => ?_) (fun hb => ?_) <;> replace hb := nb hb <;> try exact noB hb) | (with_reducible refine Exists.intro _ (And.intro rfl ?_)) | ((with_reducible refine And.intro ?_ ?_); (focus exact sdA)) | fail)
              rw [show (q2 : Int) - 1 = ((q2 - 1 : Nat) : Int) by omega]
              all_goals (refine rt ?_; refine fin ?_; exact wqA)
            · rw [if_neg hlt] at hS
              dsimp only at hS
              have e : acc.map spanD ++ [D.agg [u8 a, u8 b]] = (acc ++ [SpanS.mk a b]).map spanD := by rw [List.map_append]; rfl
              repeat' (first | exact absurd hb Bool.false_ne_true | exact absurd hb.symm Bool.false_ne_true | refine W.seq ?_ | refine W.block ?_ | (refine rg [] ?_; intro K hK) | (refine dr [] ?_; intro K hK) | refine cle [0, 1, 2] 0 (c1) ?_ | refine cle [0, 1, 2] 0 (c2) ?_ | refine oq ?_ | refine sk ?_ | (refine nk hK ?_; clear hK K) | (refine nd hK ?_; clear hK K) | refine sp ?_ | refine ex ?_ | (refine gs (fun hb => ?_) (fun hb => ?_) <;> replace hb := nb hb <;> try exact noB hb) | (refine cd (fun hb => ?_) (fun hb => ?_) <;> replace hb := nb hb <;> try exact noB hb) | (with_reducible refine Exists.intro _ (And.intro rfl ?_)) | ((with_reducible refine And.intro ?_ ?_); (focus exact sdA)) | fail)
              rw [e]
              refine nx (q2, acc ++ [⟨a, b⟩], m) ⟨j3.2, by simp only; omega, by simp; omega, hS⟩ (by simp only; omega) (sb [0, 1, 2, 3, 4, 5] setF (setO s q2 out k l p nt (acc ++ [⟨a, b⟩])) (hf := ?_))
              exact wkA
        · rw [if_neg hd] at hS
          have hd2 : s.length ≤ q1 ∨ ¬ (s.getD q1 0).toNat = 45 := by omega
          dsimp only at hS
          have e : acc.map spanD ++ [D.agg [u8 a, u8 a]] = (acc ++ [SpanS.mk a a]).map spanD := by rw [List.map_append]; rfl
          repeat' (first | exact absurd hb Bool.false_ne_true | exact absurd hb.symm Bool.false_ne_true | refine W.seq ?_ | refine W.block ?_ | (refine rg [] ?_; intro K hK) | (refine dr [] ?_; intro K hK) | refine cle [0, 1, 2] 0 (c1) ?_ | refine oq ?_ | refine sk ?_ | (refine nk hK ?_; clear hK K) | (refine nd hK ?_; clear hK K) | refine sp ?_ | refine ex ?_ | (refine gs (fun hb => ?_) (fun hb => ?_) <;> replace hb := nb hb <;> try exact noB hb) | (refine cd (fun hb => ?_) (fun hb => ?_) <;> replace hb := nb hb <;> try exact noB hb) | (with_reducible refine Exists.intro _ (And.intro rfl ?_)) | ((with_reducible refine And.intro ?_ ?_); (focus exact sdA)) | fail)
          all_goals (rw [e])
          all_goals (refine nx (q1, acc ++ [⟨a, a⟩], m) ⟨k3.2, by simp only; omega, by simp; omega, hS⟩ (by simp only; omega) (sb [0, 1, 2, 3, 4, 5] setF (setO s q1 out k l p nt (acc ++ [⟨a, a⟩])) (hf := ?_)))
          all_goals exact wkA
end Go.Proofs.Ytgebfcdcpmmgnaa.Vs
