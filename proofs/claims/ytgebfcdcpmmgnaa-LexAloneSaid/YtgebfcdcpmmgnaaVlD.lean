/- words: what a text is cut to, told by what is left of it; plain Lean. -/
import Derived.Test.YtgebfcdcpmmgnaaVlC
set_option linter.unusedVariables false
set_option linter.unusedSimpArgs false
namespace Go.Proofs.Ytgebfcdcpmmgnaa.Vs
open Go.RowKit
set_option maxRecDepth 100000
/-- How many bytes lie ahead of the next token (in a comment or not). -/
def gapR : List UInt8 → Bool → Nat
  | [], _ => 0
  | c :: r, com => if c.toNat = 10 then 1 + gapR r false else if com = true then 1 + gapR r true else if c.toNat = 35 then 1 + gapR r true else if blankB c = true then 1 + gapR r false else 0
/-- What a text is, behind its quote, and how long. -/
def textR : List UInt8 → Option (List UInt8 × Nat)
  | [] => none
  | c :: r =>
    if c.toNat = 34 then some ([], 1) else if c.toNat < 32 then none else if c.toNat = 92 then
      match r with
      | [] => none
      | d :: r' => if d.toNat < 32 then none else (textR r').map fun p => ((if d.toNat = 34 then [] else [92]) ++ d :: p.1, p.2 + 2)
    else (textR r).map fun p => (c :: p.1, p.2 + 1)
/-- The token that stands first: kind, number, text, how long. -/
def tokR : List UInt8 → Option (Int × Nat × List UInt8 × Nat)
  | [] => none
  | c :: r =>
    if letterB c = true then (if 20 < ((c :: r).takeWhile wordB).length then none else some (1, 0, (c :: r).takeWhile wordB, ((c :: r).takeWhile wordB).length))
    else if digitB c = true then (if 4 < ((c :: r).takeWhile digitB).length ∨ 1 < ((c :: r).takeWhile digitB).length ∧ c.toNat = 48 then none else some (2, decN ((c :: r).takeWhile digitB), [], ((c :: r).takeWhile digitB).length))
    else if c.toNat = 34 then (textR r).map fun p => (3, 0, p.1, p.2 + 1)
    else none
inductive Cuts : Nat → List UInt8 → List TokS → Prop
  | done {p r} (h : gapR r false = r.length) : Cuts p r []
  | tok {p r k n t len ts} (h : gapR r false < r.length) (ht : tokR (r.drop (gapR r false)) = some (k, n, t, len)) (hc : Cuts (p + gapR r false + len) (r.drop (gapR r false + len)) ts) : Cuts p r (⟨k, p + gapR r false, n, t⟩ :: ts)
/-! ### Gaps -/
theorem gap_le : ∀ (r : List UInt8) (b : Bool), gapR r b ≤ r.length
  | [], _ => Nat.le_refl _
  | c :: r, b => by
    have h1 := gap_le r false
    have h2 := gap_le r true
    unfold gapR
    simp only [List.length_cons]
    (repeat' split) <;> omega
theorem gap_stop : ∀ (r : List UInt8) (b : Bool), gapR r b < r.length → ∃ c r', r.drop (gapR r b) = c :: r' ∧ c.toNat ≠ 10 ∧ c.toNat ≠ 35 ∧ blankB c = false
  | [], _, h => by simp at h
  | c :: r, b, h => by
    unfold gapR at h ⊢
    by_cases h1 : c.toNat = 10
    · rw [if_pos h1] at h ⊢
      rw [Nat.add_comm, List.drop_succ_cons]
      exact gap_stop r false (by simp only [List.length_cons] at h; omega)
    rw [if_neg h1] at h ⊢
    by_cases h2 : b = true
    · rw [if_pos h2] at h ⊢
      rw [Nat.add_comm, List.drop_succ_cons]
      exact gap_stop r true (by simp only [List.length_cons] at h; omega)
    rw [if_neg h2] at h ⊢
    by_cases h3 : c.toNat = 35
    · rw [if_pos h3] at h ⊢
      rw [Nat.add_comm, List.drop_succ_cons]
      exact gap_stop r true (by simp only [List.length_cons] at h; omega)
    rw [if_neg h3] at h ⊢
    by_cases h4 : blankB c = true
    · rw [if_pos h4] at h ⊢
      rw [Nat.add_comm, List.drop_succ_cons]
      exact gap_stop r false (by simp only [List.length_cons] at h; omega)
    · rw [if_neg h4]
      exact ⟨c, r, rfl, h1, h3, by simpa using h4⟩
theorem gap_zero {c : UInt8} {r : List UInt8} (h1 : c.toNat ≠ 10) (h2 : c.toNat ≠ 35) (h3 : blankB c = false) : gapR (c :: r) false = 0 := by
  unfold gapR
  rw [if_neg h1, if_neg (by decide), if_neg h2, if_neg (by rw [h3]; decide)]
theorem gap_take : ∀ (r : List UInt8) (b : Bool), gapR (r.take (gapR r b)) b = gapR r b
  | [], _ => rfl
  | c :: r, b => by
    have h1 := gap_take r false
    have h2 := gap_take r true
    rw [gapR]
    by_cases e1 : c.toNat = 10
    · rw [if_pos e1, Nat.add_comm, List.take_succ_cons, gapR, if_pos e1, h1, Nat.add_comm]
    rw [if_neg e1]
    by_cases e2 : b = true
    · rw [if_pos e2, Nat.add_comm, List.take_succ_cons, gapR, if_neg e1, if_pos e2, h2, Nat.add_comm]
    rw [if_neg e2]
    by_cases e3 : c.toNat = 35
    · rw [if_pos e3, Nat.add_comm, List.take_succ_cons, gapR, if_neg e1, if_neg e2, if_pos e3, h2, Nat.add_comm]
    rw [if_neg e3]
    by_cases e4 : blankB c = true
    · rw [if_pos e4, Nat.add_comm, List.take_succ_cons, gapR, if_neg e1, if_neg e2, if_neg e3, if_pos e4, h1, Nat.add_comm]
    · rw [if_neg e4]; rfl
theorem gap_app (s : List UInt8) : ∀ (r : List UInt8) (b : Bool), (gapR r b < r.length → gapR (r ++ 10 :: s) b = gapR r b) ∧ (gapR r b = r.length → gapR (r ++ 10 :: s) b = r.length + 1 + gapR s false)
  | [], b => ⟨fun h => by simp at h, fun _ => by rw [List.nil_append, gapR, if_pos (by decide), List.length_nil, Nat.zero_add]⟩
  | c :: r, b => by
    obtain ⟨h1, h2⟩ := gap_app s r false
    obtain ⟨h3, h4⟩ := gap_app s r true
    rw [List.cons_append, gapR, gapR]
    simp only [List.length_cons]
    by_cases e1 : c.toNat = 10
    · simp only [if_pos e1]
      exact ⟨fun h => by rw [h1 (by omega)], fun h => by rw [h2 (by omega)]; omega⟩
    simp only [if_neg e1]
    by_cases e2 : b = true
    · simp only [if_pos e2]
      exact ⟨fun h => by rw [h3 (by omega)], fun h => by rw [h4 (by omega)]; omega⟩
    simp only [if_neg e2]
    by_cases e3 : c.toNat = 35
    · simp only [if_pos e3]
      exact ⟨fun h => by rw [h3 (by omega)], fun h => by rw [h4 (by omega)]; omega⟩
    simp only [if_neg e3]
    by_cases e4 : blankB c = true
    · simp only [if_pos e4]
      exact ⟨fun h => by rw [h1 (by omega)], fun h => by rw [h2 (by omega)]; omega⟩
    · simp only [if_neg e4]
      exact ⟨fun _ => trivial, fun h => by omega⟩
/-! ### Tokens -/
theorem tw_take (p : UInt8 → Bool) : ∀ (l : List UInt8) (j : Nat), (l.takeWhile p).length ≤ j → (l.take j).takeWhile p = l.takeWhile p
  | [], _, _ => by simp
  | c :: l, 0, h => by
    cases hc : p c with
    | false => rw [List.takeWhile_cons_of_neg (by rw [hc]; decide)]; rfl
    | true => rw [List.takeWhile_cons_of_pos hc] at h; simp at h
  | c :: l, j + 1, h => by
    rw [List.take_succ_cons]
    cases hc : p c with
    | false => rw [List.takeWhile_cons_of_neg (by rw [hc]; decide), List.takeWhile_cons_of_neg (by rw [hc]; decide)]
    | true =>
      rw [List.takeWhile_cons_of_pos hc] at h ⊢
      rw [List.takeWhile_cons_of_pos hc, tw_take p l j (by simpa using h)]
theorem tw_app (p : UInt8 → Bool) (s : List UInt8) (h : p 10 = false) : ∀ l : List UInt8, (l ++ 10 :: s).takeWhile p = l.takeWhile p
  | [] => by rw [List.nil_append, List.takeWhile_cons_of_neg (by rw [h]; decide)]; rfl
  | c :: l => by
    rw [List.cons_append]
    cases hc : p c with
    | false => rw [List.takeWhile_cons_of_neg (by rw [hc]; decide), List.takeWhile_cons_of_neg (by rw [hc]; decide)]
    | true => rw [List.takeWhile_cons_of_pos hc, List.takeWhile_cons_of_pos hc, tw_app p s h l]
theorem text_take : ∀ (r : List UInt8) (j : Nat) (t : List UInt8) (n : Nat), textR r = some (t, n) → n ≤ j → textR (r.take j) = some (t, n) ∧ 1 ≤ n ∧ n ≤ r.length
  | [], _, _, _, h, _ => by cases h
  | [c], j, t, n, h, hj => by
    unfold textR at h
    split at h
    · rename_i e
      injection h with h; injection h with h1 h2
      subst h1; subst h2
      obtain ⟨j, rfl⟩ : ∃ k, j = k + 1 := ⟨j - 1, by omega⟩
      exact ⟨by rw [List.take_succ_cons, textR.eq_def]; simp only; rw [if_pos e], Nat.le_refl _, by simp⟩
    split at h
    · cases h
    split at h
    · cases h
    · cases h
  | c :: d :: r, j, t, n, h, hj => by
    unfold textR at h
    split at h
    · rename_i e
      injection h with h; injection h with h1 h2
      subst h1; subst h2
      obtain ⟨j, rfl⟩ : ∃ k, j = k + 1 := ⟨j - 1, by omega⟩
      exact ⟨by rw [List.take_succ_cons, textR.eq_def]; simp only; rw [if_pos e], Nat.le_refl _, by simp⟩
    rename_i e1
    split at h
    · cases h
    rename_i e2
    split at h
    · rename_i e3
      simp only at h
      split at h
      · cases h
      rename_i e4
      obtain ⟨q, hq, he⟩ := Option.map_eq_some_iff.1 h
      injection he with h1 h2
      subst h1; subst h2
      obtain ⟨j, rfl⟩ : ∃ k, j = k + 2 := ⟨j - 2, by omega⟩
      obtain ⟨k1, k2, k3⟩ := text_take r j q.1 q.2 hq (by omega)
      refine ⟨?_, by omega, by simp only [List.length_cons]; omega⟩
      rw [List.take_succ_cons, List.take_succ_cons, textR.eq_def]
      simp only
      rw [if_neg e1, if_neg e2, if_pos e3, if_neg e4, k1]
      rfl
    · rename_i e3
      obtain ⟨q, hq, he⟩ := Option.map_eq_some_iff.1 h
      injection he with h1 h2
      subst h1; subst h2
      obtain ⟨j, rfl⟩ : ∃ k, j = k + 1 := ⟨j - 1, by omega⟩
      obtain ⟨k1, k2, k3⟩ := text_take (d :: r) j q.1 q.2 hq (by omega)
      refine ⟨?_, by omega, by simp only [List.length_cons] at k3 ⊢; omega⟩
      rw [List.take_succ_cons, textR.eq_def]
      simp only
      rw [if_neg e1, if_neg e2, if_neg e3, k1]
      rfl
theorem text_app (s : List UInt8) : ∀ (r : List UInt8) (t : List UInt8) (n : Nat), textR r = some (t, n) → textR (r ++ s) = some (t, n)
  | [], _, _, h => by cases h
  | [c], t, n, h => by
    unfold textR at h
    split at h
    · rename_i e
      rw [List.cons_append, textR.eq_def]; simp only; rw [if_pos e]; exact h
    split at h
    · cases h
    split at h
    · cases h
    · cases h
  | c :: d :: r, t, n, h => by
    unfold textR at h
    rw [List.cons_append, List.cons_append, textR.eq_def]
    simp only
    split at h
    · rename_i e; rw [if_pos e]; exact h
    rename_i e1
    rw [if_neg e1]
    split at h
    · cases h
    rename_i e2
    rw [if_neg e2]
    split at h
    · rename_i e3
      rw [if_pos e3]
      simp only at h
      split at h
      · cases h
      rename_i e4
      rw [if_neg e4]
      obtain ⟨q, hq, he⟩ := Option.map_eq_some_iff.1 h
      rw [text_app s r q.1 q.2 hq]
      exact congrArg some he
    · rename_i e3
      rw [if_neg e3]
      obtain ⟨q, hq, he⟩ := Option.map_eq_some_iff.1 h
      have := text_app s (d :: r) q.1 q.2 hq
      rw [List.cons_append] at this
      rw [this]
      exact congrArg some he
theorem tw_cons_pos {p : UInt8 → Bool} {c : UInt8} {r : List UInt8} (h : p c = true) : 1 ≤ ((c :: r).takeWhile p).length := by rw [List.takeWhile_cons_of_pos h]; simp
theorem tok_take {r : List UInt8} {k : Int} {n len : Nat} {t : List UInt8} (h : tokR r = some (k, n, t, len)) : (1 ≤ len ∧ len ≤ r.length) ∧ ∀ j, len ≤ j → tokR (r.take j) = some (k, n, t, len) := by
  cases r with
  | nil => cases h
  | cons c r =>
    unfold tokR at h
    dsimp only at h
    split at h
    · rename_i e1
      split at h
      · cases h
      rename_i e2
      have hp := tw_cons_pos (p := wordB) (c := c) (r := r) (by unfold wordB; rw [e1]; rfl)
      have hl := (tw_len wordB (c :: r) 0).2.2
      injection h with h; injection h with h1 h; injection h with h2 h; injection h with h3 h4
      subst h1; subst h2; subst h3; subst h4
      refine ⟨⟨hp, hl⟩, fun j hj => ?_⟩
      have ht := tw_take wordB (c :: r) j hj
      obtain ⟨j, rfl⟩ : ∃ k, j = k + 1 := ⟨j - 1, by omega⟩
      rw [List.take_succ_cons] at ht ⊢
      rw [tokR, if_pos e1, ht, if_neg e2]
    rename_i e1
    split at h
    · rename_i e2
      split at h
      · cases h
      rename_i e3
      have hp := tw_cons_pos (p := digitB) (c := c) (r := r) e2
      have hl := (tw_len digitB (c :: r) 0).2.2
      injection h with h; injection h with h1 h; injection h with h2 h; injection h with h3 h4
      subst h1; subst h2; subst h3; subst h4
      refine ⟨⟨hp, hl⟩, fun j hj => ?_⟩
      have ht := tw_take digitB (c :: r) j hj
      obtain ⟨j, rfl⟩ : ∃ k, j = k + 1 := ⟨j - 1, by omega⟩
      rw [List.take_succ_cons] at ht ⊢
      rw [tokR, if_neg e1, if_pos e2, ht, if_neg e3]
    rename_i e2
    split at h
    · rename_i e3
      obtain ⟨q, hq, he⟩ := Option.map_eq_some_iff.1 h
      injection he with h1 he; injection he with h2 he; injection he with h3 h4
      subst h1; subst h2; subst h3; subst h4
      have hb := (text_take r q.2 q.1 q.2 hq (Nat.le_refl _)).2
      refine ⟨⟨by omega, by simp only [List.length_cons]; omega⟩, fun j hj => ?_⟩
      obtain ⟨j, rfl⟩ : ∃ k, j = k + 1 := ⟨j - 1, by omega⟩
      rw [List.take_succ_cons, tokR, if_neg e1, if_neg e2, if_pos e3, (text_take r j q.1 q.2 hq (by omega)).1]
      rfl
    · cases h
theorem tok_app (s : List UInt8) {r : List UInt8} {k : Int} {n len : Nat} {t : List UInt8} (h : tokR r = some (k, n, t, len)) : tokR (r ++ 10 :: s) = some (k, n, t, len) := by
  cases r with
  | nil => cases h
  | cons c r =>
    have hw := tw_app wordB s (by decide) (c :: r)
    have hd := tw_app digitB s (by decide) (c :: r)
    rw [List.cons_append] at hw hd ⊢
    unfold tokR at h ⊢
    dsimp only at h ⊢
    rw [hw, hd]
    split at h
    · rename_i e1; rw [if_pos e1]; exact h
    rename_i e1
    rw [if_neg e1]
    split at h
    · rename_i e2; rw [if_pos e2]; exact h
    rename_i e2
    rw [if_neg e2]
    split at h
    · rename_i e3
      rw [if_pos e3]
      obtain ⟨q, hq, he⟩ := Option.map_eq_some_iff.1 h
      rw [text_app (10 :: s) r q.1 q.2 hq]
      exact congrArg some he
    · cases h
/-! ### What follows from it -/
def TokS.up (d : Nat) (x : TokS) : TokS := ⟨x.kind, x.pos + d, x.n, x.text⟩
theorem Cuts.up (d : Nat) {p : Nat} {r : List UInt8} {l : List TokS} (h : Cuts p r l) : Cuts (p + d) r (l.map (TokS.up d)) := by
  induction h with
  | done h => exact .done h
  | tok h ht hc ih =>
    rename_i p r k n t len ts
    have ih2 : Cuts (p + d + gapR r false + len) (r.drop (gapR r false + len)) (ts.map (TokS.up d)) := by
      rw [show p + d + gapR r false + len = p + gapR r false + len + d by omega]; exact ih
    have := Cuts.tok (p := p + d) h ht ih2
    rw [List.map_cons]
    show Cuts (p + d) r (⟨k, p + gapR r false + d, n, t⟩ :: _)
    rw [show p + gapR r false + d = p + d + gapR r false by omega]
    exact this
/-- Behind another text that is cut. -/
theorem Cuts.behind {p : Nat} {r : List UInt8} {l : List TokS} (h : Cuts p r l) (s : List UInt8) (l2 : List TokS) (h2 : Cuts (p + r.length + 1) s l2) : Cuts p (r ++ 10 :: s) (l ++ l2) := by
  induction h with
  | done h =>
    rename_i p r
    have hg := (gap_app s r false).2 h
    cases h2 with
    | done h2 => exact .done (by rw [hg, h2]; simp; omega)
    | tok h2 ht hc =>
      rename_i k n t len ts
      have hd : (r ++ 10 :: s).drop (r.length + 1 + gapR s false) = s.drop (gapR s false) := by
        rw [show r.length + 1 + gapR s false = r.length + (1 + gapR s false) by omega, ← List.drop_drop, List.drop_left' rfl, Nat.add_comm 1, List.drop_succ_cons]
      have hd2 : (r ++ 10 :: s).drop (r.length + 1 + gapR s false + len) = s.drop (gapR s false + len) := by
        rw [← List.drop_drop, hd, List.drop_drop]
      have := Cuts.tok (p := p) (r := r ++ 10 :: s) (k := k) (n := n) (t := t) (len := len) (ts := ts) (by rw [hg]; simp; omega) (by rw [hg, hd]; exact ht) (by
        rw [hg, hd2, show p + (r.length + 1 + gapR s false) + len = p + r.length + 1 + gapR s false + len by omega]; exact hc)
      rw [hg] at this
      rw [List.nil_append, show p + r.length + 1 + gapR s false = p + (r.length + 1 + gapR s false) by omega]
      exact this
  | tok h ht hc ih =>
    rename_i p r k n t len ts
    have hb := (tok_take ht).1
    rw [List.length_drop] at hb
    have hg := (gap_app s r false).1 h
    have hd : (r ++ 10 :: s).drop (gapR r false) = r.drop (gapR r false) ++ 10 :: s := List.drop_append_of_le_length (by omega)
    have hd2 : (r ++ 10 :: s).drop (gapR r false + len) = r.drop (gapR r false + len) ++ 10 :: s := List.drop_append_of_le_length (by omega)
    have ih2 := ih (by rw [List.length_drop, show p + gapR r false + len + (r.length - (gapR r false + len)) + 1 = p + r.length + 1 by omega]; exact h2)
    have := Cuts.tok (p := p) (r := r ++ 10 :: s) (k := k) (n := n) (t := t) (len := len) (ts := ts ++ l2) (by rw [hg]; simp; omega) (by rw [hg, hd]; exact tok_app s ht) (by rw [hg, hd2]; exact ih2)
    rw [hg] at this
    exact this
/-- Up to where the i-th token is alone. -/
def nextOf (l : List TokS) (i : Nat) (fin : Nat) : Nat := if i + 1 < l.length then (l.getD (i + 1) TokS.zero).pos else fin
theorem Cuts.alone {p : Nat} {r : List UInt8} {l : List TokS} (h : Cuts p r l) : ∀ i, i < l.length → p ≤ (l.getD i TokS.zero).pos ∧ (l.getD i TokS.zero).pos < nextOf l i (p + r.length) ∧ nextOf l i (p + r.length) ≤ p + r.length ∧
    Cuts 0 ((r.take (nextOf l i (p + r.length) - p)).drop ((l.getD i TokS.zero).pos - p)) [⟨(l.getD i TokS.zero).kind, 0, (l.getD i TokS.zero).n, (l.getD i TokS.zero).text⟩] := by
  induction h with
  | done h => intro i hi; simp at hi
  | tok h ht hc ih =>
    rename_i p r k n t len ts
    have hb := (tok_take ht).1
    have htk := (tok_take ht).2
    rw [List.length_drop] at hb
    intro i hi
    cases i with
    | zero =>
      have hn : nextOf (⟨k, p + gapR r false, n, t⟩ :: ts) 0 (p + r.length) = p + gapR r false + len + gapR (r.drop (gapR r false + len)) false := by
        unfold nextOf
        cases hc with
        | done h2 =>
          rw [if_neg (by simp), h2, List.length_drop]
          omega
        | tok h2 ht2 hc2 =>
          rw [if_pos (by simp)]
          rfl
      have hle := gap_le (r.drop (gapR r false + len)) false
      rw [List.length_drop] at hle
      rw [hn]
      show p ≤ p + gapR r false ∧ p + gapR r false < _ ∧ _ ∧ Cuts 0 ((r.take _).drop (p + gapR r false - p)) [⟨k, 0, n, t⟩]
      refine ⟨by omega, by omega, by omega, ?_⟩
      obtain ⟨c, r', hcr, q1, q2, q3⟩ := gap_stop r false h
      have hm : (r.take (p + gapR r false + len + gapR (r.drop (gapR r false + len)) false - p)).drop (p + gapR r false - p) = (r.drop (gapR r false)).take (len + gapR (r.drop (gapR r false + len)) false) := by
        rw [List.drop_take, show p + gapR r false - p = gapR r false by omega, show p + gapR r false + len + gapR (r.drop (gapR r false + len)) false - p - gapR r false = len + gapR (r.drop (gapR r false + len)) false by omega]
      rw [hm]
      have hg0 : gapR ((r.drop (gapR r false)).take (len + gapR (r.drop (gapR r false + len)) false)) false = 0 := by
        rw [hcr]
        obtain ⟨j, hj⟩ : ∃ j, len + gapR (r.drop (gapR r false + len)) false = j + 1 := ⟨len + gapR (r.drop (gapR r false + len)) false - 1, by omega⟩
        rw [hj, List.take_succ_cons]
        exact gap_zero q1 q2 q3
      have := Cuts.tok (p := 0) (r := (r.drop (gapR r false)).take (len + gapR (r.drop (gapR r false + len)) false)) (k := k) (n := n) (t := t) (len := len) (ts := []) (by rw [hg0, List.length_take, List.length_drop]; omega) (by rw [hg0, List.drop_zero]; exact htk _ (by omega)) (.done (by
        rw [hg0, Nat.zero_add, List.drop_take, List.drop_drop, Nat.add_sub_cancel_left, gap_take, List.length_take, List.length_drop]
        omega))
      rw [hg0] at this
      exact this
    | succ i =>
      simp only [List.length_cons] at hi
      obtain ⟨a1, a2, a3, a4⟩ := ih i (by omega)
      have hn : nextOf (⟨k, p + gapR r false, n, t⟩ :: ts) (i + 1) (p + r.length) = nextOf ts i (p + gapR r false + len + (r.drop (gapR r false + len)).length) := by
        unfold nextOf
        rw [List.length_drop]
        by_cases hx : i + 1 < ts.length
        · rw [if_pos (by simp only [List.length_cons]; omega), if_pos hx]; rfl
        · rw [if_neg (by simp only [List.length_cons]; omega), if_neg hx]; omega
      rw [hn]
      show p ≤ (ts.getD i TokS.zero).pos ∧ (ts.getD i TokS.zero).pos < _ ∧ _ ∧ Cuts 0 ((r.take _).drop ((ts.getD i TokS.zero).pos - p)) [⟨(ts.getD i TokS.zero).kind, 0, (ts.getD i TokS.zero).n, (ts.getD i TokS.zero).text⟩]
      have hfin : p + gapR r false + len + (r.drop (gapR r false + len)).length = p + r.length := by rw [List.length_drop]; omega
      refine ⟨by omega, a2, by omega, ?_⟩
      generalize (ts.getD i TokS.zero).pos = a at *
      generalize nextOf ts i (p + gapR r false + len + (r.drop (gapR r false + len)).length) = b at *
      have : (r.take (b - p)).drop (a - p) = ((r.drop (gapR r false + len)).take (b - (p + gapR r false + len))).drop (a - (p + gapR r false + len)) := by
        rw [List.take_drop, List.drop_drop, show gapR r false + len + (a - (p + gapR r false + len)) = a - p by omega, show gapR r false + len + (b - (p + gapR r false + len)) = b - p by omega]
      rw [this]
      exact a4
end Go.Proofs.Ytgebfcdcpmmgnaa.Vs
