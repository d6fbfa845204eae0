/- lex: what a text is cut to, plainly. -/
import Derived.Test.YtpcapijakenjbaaLexB
set_option linter.unusedVariables false
set_option linter.unusedSimpArgs false
namespace Go.Proofs.Ytpcapijakenjbaa.Lex
open Go.RowKit Go.Proofs.Ytpcapijakenjbaa.Sl
def skipR : List UInt8 → Bool → Nat → Nat
  | [], _, p => p
  | c :: r, rem, p =>
    let rem2 := if c.toNat = 10 then false else (rem || decide (c.toNat = 35))
    if rem2 = false ∧ blankB c = false then p else skipR r rem2 (p + 1)
def skipAt (s : List UInt8) (p : Nat) : Nat := skipR (s.drop p) false p
def textR : List UInt8 → Nat → List UInt8 → Option (List UInt8) × Nat
  | [], p, _ => (none, p)
  | c :: r, p, acc =>
    if c.toNat = 34 then (some acc, p + 1) else if c.toNat < 32 then (none, p) else if c.toNat = 92 then
      match r with
      | [] => (none, p + 1)
      | d :: r' => if d.toNat < 32 then (none, p + 1) else textR r' (p + 2) (acc ++ (if d.toNat = 34 then [] else [92]) ++ [d])
    else textR r (p + 1) (acc ++ [c])
def decOf (d : List UInt8) : Nat := d.foldl (fun n b => 10 * n + (b.toNat - 48)) 0
/-- The token at a place, and the place behind it; or where it can't go on. -/
def oneR (s : List UInt8) (p : Nat) : Option TokV × Nat :=
  match s[p]? with
  | none => (none, p)
  | some c =>
    if c.toNat = 34 then
      match textR (s.drop (p + 1)) (p + 1) [] with
      | (some b, q) => (some ⟨3, p, 0, b⟩, q)
      | (none, q) => (none, q)
    else if letterB c = true then
      (if 20 < spanV wordB s p then (none, p) else (some ⟨1, p, 0, (s.drop p).take (spanV wordB s p)⟩, p + spanV wordB s p))
    else
      let n := spanV digitB s p
      if n = 0 ∨ 4 < n ∨ (1 < n ∧ c.toNat = 48) then (none, p) else (some ⟨2, p, decOf ((s.drop p).take n), []⟩, p + n)
def cutF : Nat → List UInt8 → Nat → List TokV → Nat ⊕ List TokV
  | 0, _, _, out => .inr out
  | n + 1, s, p, out =>
    if s.length ≤ p then .inr out else
      match oneR s p with
      | (none, q) => .inl q
      | (some x, q) => cutF n s (skipAt s q) (out ++ [x])
def cutR (s : List UInt8) (p : Nat) (out : List TokV) : Nat ⊕ List TokV := cutF (s.length - p) s p out
theorem skipR_ge : ∀ (r : List UInt8) (b : Bool) (p : Nat), p ≤ skipR r b p ∧ skipR r b p ≤ p + r.length
  | [], _, p => ⟨Nat.le_refl _, Nat.le_refl _⟩
  | c :: r, b, p => by
    have := skipR_ge r (if c.toNat = 10 then false else (b || decide (c.toNat = 35))) (p + 1)
    rw [skipR]
    generalize (if c.toNat = 10 then false else (b || decide (c.toNat = 35))) = z at *
    simp only [List.length_cons]
    by_cases hq : z = false ∧ blankB c = false
    · rw [if_pos hq]; omega
    · rw [if_neg hq]; omega
theorem skipAt_ge (s : List UInt8) (p : Nat) (h : p ≤ s.length) : p ≤ skipAt s p ∧ skipAt s p ≤ s.length := by
  have := skipR_ge (s.drop p) false p
  unfold skipAt
  simp at this
  omega
theorem textR_ge : ∀ (r : List UInt8) (p : Nat) (acc : List UInt8), p ≤ (textR r p acc).2 ∧ (textR r p acc).2 ≤ p + r.length ∧ ((textR r p acc).1.isSome = true → p + 1 ≤ (textR r p acc).2)
  | [], p, _ => ⟨Nat.le_refl _, Nat.le_refl _, fun h => by cases h⟩
  | [c], p, acc => by
    unfold textR
    split
    · simp
    split
    · simp
    split
    · simp
    · have := textR_ge [] (p + 1) (acc ++ [c])
      simp only [List.length_cons, List.length_nil] at *
      exact ⟨by omega, by omega, fun h => by have := this.2.2 h; omega⟩
  | c :: d :: r, p, acc => by
    unfold textR
    split
    · simp
    split
    · simp
    split
    · simp only
      split
      · simp
      · have := textR_ge r (p + 2) (acc ++ (if d.toNat = 34 then [] else [92]) ++ [d])
        simp only [List.length_cons] at *
        exact ⟨by omega, by omega, fun h => by have := this.2.2 h; omega⟩
    · have := textR_ge (d :: r) (p + 1) (acc ++ [c])
      simp only [List.length_cons] at *
      exact ⟨by omega, by omega, fun h => by have := this.2.2 h; omega⟩
theorem spanV_pos {p : UInt8 → Bool} {s : List UInt8} {i : Nat} {c : UInt8} (h : s[i]? = some c) (hp : p c = true) : 1 ≤ spanV p s i := by
  rw [spanV_step p s i (by unfold moreV; rw [h]; exact hp)]
  omega
theorem oneR_gt {s : List UInt8} {p q : Nat} {x : TokV} (h : oneR s p = (some x, q)) : p < q ∧ q ≤ s.length := by
  unfold oneR at h
  cases hc : s[p]? with
  | none => rw [hc] at h; cases h
  | some c =>
    have hl := (List.getElem?_eq_some_iff.1 hc).1
    rw [hc] at h
    simp only at h
    split at h
    · have := textR_ge (s.drop (p + 1)) (p + 1) []
      split at h
      · rename_i hb
        rw [hb] at this
        injection h with _ h
        subst h
        simp at this
        omega
      · cases h
    split at h
    · rename_i h1 h2
      split at h
      · cases h
      · injection h with _ h
        subst h
        have := spanV_pos (p := wordB) hc (by unfold wordB; rw [h2]; rfl)
        have := spanV_le wordB s p (by omega)
        omega
    · split at h
      · cases h
      · rename_i h3
        injection h with _ h
        subst h
        have := spanV_le digitB s p (by omega)
        omega
theorem cutF_more (s : List UInt8) : ∀ (n m p : Nat) (out : List TokV), s.length - p ≤ n → s.length - p ≤ m → p ≤ s.length → cutF n s p out = cutF m s p out := by
  intro n
  induction n with
  | zero =>
    intro m p out h1 h2 h3
    cases m with
    | zero => rfl
    | succ m => rw [cutF, cutF, if_pos (by omega)]
  | succ n ih =>
    intro m p out h1 h2 h3
    cases m with
    | zero => rw [cutF, cutF, if_pos (by omega)]
    | succ m =>
      rw [cutF, cutF]
      split
      · rfl
      · split
        · rfl
        · rename_i x q hq
          have := oneR_gt hq
          have := skipAt_ge s q this.2
          exact ih m _ _ (by omega) (by omega) (by omega)
theorem cutR_eq (s : List UInt8) (p : Nat) (out : List TokV) (h : p ≤ s.length) : cutR s p out = if s.length ≤ p then .inr out else match oneR s p with
    | (none, q) => .inl q
    | (some x, q) => cutR s (skipAt s q) (out ++ [x]) := by
  unfold cutR
  split
  · rename_i h1
    rw [show s.length - p = 0 by omega, cutF]
  · rename_i h1
    obtain ⟨n, hn⟩ : ∃ n, s.length - p = n + 1 := ⟨s.length - p - 1, by omega⟩
    rw [hn, cutF, if_neg h1]
    split
    · rfl
    · rename_i x q hq
      have := oneR_gt hq
      have := skipAt_ge s q this.2
      exact cutF_more s _ _ _ _ (by omega) (by omega) (by omega)
theorem drop_at {s : List UInt8} {i : Nat} {c : UInt8} (h : s[i]? = some c) : s.drop i = c :: s.drop (i + 1) := by
  obtain ⟨hl, he⟩ := List.getElem?_eq_some_iff.1 h
  rw [List.drop_eq_getElem_cons hl, he]
theorem skipR_blanks (s : List UInt8) : ∀ (n p : Nat), spanV blankB s p = n → skipR (s.drop p) false p = skipR (s.drop (p + n)) false (p + n) := by
  intro n
  induction n with
  | zero => intro p _; rfl
  | succ n ih =>
    intro p h
    cases hm : moreV blankB s p with
    | false => rw [spanV_stop _ _ _ hm] at h; cases h
    | true =>
      rw [spanV_step _ _ _ hm] at h
      have h2 := ih (p + 1) (by omega)
      unfold moreV at hm
      cases hc : s[p]? with
      | none => rw [hc] at hm; cases hm
      | some c =>
        rw [hc] at hm
        rw [drop_at hc, skipR]
        dsimp only at hm ⊢
        have h35 : c.toNat ≠ 35 := by
          unfold blankB at hm
          simp only [Bool.or_eq_true, decide_eq_true_eq] at hm
          omega
        rw [if_neg (by rw [hm]; simp)]
        have : (if c.toNat = 10 then false else (false || decide (c.toNat = 35))) = false := by simp [h35]
        rw [this, h2, show p + 1 + n = p + (n + 1) by omega]
theorem skipR_remark (s : List UInt8) : ∀ (n p : Nat), spanV (fun c => decide (c.toNat ≠ 10)) s p = n → skipR (s.drop p) true p = skipR (s.drop (p + n)) true (p + n) := by
  intro n
  induction n with
  | zero => intro p _; rfl
  | succ n ih =>
    intro p h
    cases hm : moreV (fun c => decide (c.toNat ≠ 10)) s p with
    | false => rw [spanV_stop _ _ _ hm] at h; cases h
    | true =>
      rw [spanV_step _ _ _ hm] at h
      have h2 := ih (p + 1) (by omega)
      unfold moreV at hm
      cases hc : s[p]? with
      | none => rw [hc] at hm; cases hm
      | some c =>
        rw [hc] at hm
        simp only [decide_eq_true_eq] at hm
        rw [drop_at hc, skipR]
        rw [if_neg hm, if_neg (by simp)]
        rw [show (true || decide (c.toNat = 35)) = true from rfl, h2, show p + 1 + n = p + (n + 1) by omega]
theorem skipAt_blanks (s : List UInt8) (p : Nat) : skipAt s p = skipAt s (p + spanV blankB s p) := skipR_blanks s _ p rfl
theorem skipAt_remark (s : List UInt8) (p : Nat) (h : ∃ c, s[p]? = some c ∧ c.toNat = 35) : skipAt s p = skipAt s (p + spanV (fun c => decide (c.toNat ≠ 10)) s p) := by
  obtain ⟨c, hc, h35⟩ := h
  have hm : moreV (fun c => decide (c.toNat ≠ 10)) s p = true := by unfold moreV; rw [hc]; simp [h35]
  have h1 : skipAt s p = skipR (s.drop p) true p := by
    unfold skipAt
    rw [drop_at hc, skipR, skipR]
    simp [h35]
  rw [h1, skipR_remark s _ p rfl]
  unfold skipAt
  generalize hq : p + spanV (fun c => decide (c.toNat ≠ 10)) s p = q
  have hst : moreV (fun c => decide (c.toNat ≠ 10)) s q = false := by
    have : ∀ n p, spanV (fun c => decide (c.toNat ≠ 10)) s p = n → moreV (fun c => decide (c.toNat ≠ 10)) s (p + n) = false := by
      intro n
      induction n with
      | zero =>
        intro p h
        cases hm : moreV (fun c => decide (c.toNat ≠ 10)) s p with
        | false => rfl
        | true => rw [spanV_step _ _ _ hm] at h; cases h
      | succ n ih =>
        intro p h
        cases hm : moreV (fun c => decide (c.toNat ≠ 10)) s p with
        | false => rw [spanV_stop _ _ _ hm] at h; cases h
        | true =>
          rw [spanV_step _ _ _ hm] at h
          rw [show p + (n + 1) = p + 1 + n by omega]
          exact ih (p + 1) (by omega)
    rw [← hq]
    exact this _ p rfl
  unfold moreV at hst
  cases hd : s[q]? with
  | none => rw [List.drop_eq_nil_of_le (List.getElem?_eq_none_iff.1 hd)]; rfl
  | some d =>
    rw [hd] at hst
    simp at hst
    rw [drop_at hd, skipR, skipR]
    simp [hst]
theorem skipAt_here (s : List UInt8) (p : Nat) (c : UInt8) (hc : s[p]? = some c) (hb : blankB c = false) (h35 : c.toNat ≠ 35) : skipAt s p = p := by
  unfold skipAt
  rw [drop_at hc, skipR]
  simp [hb, h35]
theorem skipAt_end (s : List UInt8) : skipAt s s.length = s.length := by
  unfold skipAt
  rw [List.drop_length]
  rfl
theorem spanV_end (p : UInt8 → Bool) (s : List UInt8) : ∀ n i, spanV p s i = n → moreV p s (i + n) = false := by
  intro n
  induction n with
  | zero =>
    intro i h
    cases hm : moreV p s i with
    | false => rfl
    | true => rw [spanV_step _ _ _ hm] at h; cases h
  | succ n ih =>
    intro i h
    cases hm : moreV p s i with
    | false => rw [spanV_stop _ _ _ hm] at h; cases h
    | true =>
      rw [spanV_step _ _ _ hm] at h
      rw [show i + (n + 1) = i + 1 + n by omega]
      exact ih (i + 1) (by omega)
theorem textR_plain (s : List UInt8) : ∀ (n p : Nat) (acc : List UInt8), spanV plainB s p = n → textR (s.drop p) p acc = textR (s.drop (p + n)) (p + n) (acc ++ (s.drop p).take n) := by
  intro n
  induction n with
  | zero => intro p acc _; simp
  | succ n ih =>
    intro p acc h
    cases hm : moreV plainB s p with
    | false => rw [spanV_stop _ _ _ hm] at h; cases h
    | true =>
      rw [spanV_step _ _ _ hm] at h
      unfold moreV at hm
      cases hc : s[p]? with
      | none => rw [hc] at hm; cases hm
      | some c =>
        rw [hc] at hm
        simp only [plainB, Bool.and_eq_true, decide_eq_true_eq] at hm
        rw [drop_at hc, textR.eq_def]
        dsimp only
        rw [if_neg hm.1.2, if_neg (by omega), if_neg hm.2, ih (p + 1) _ (by omega), show p + 1 + n = p + (n + 1) by omega]
        simp
end Go.Proofs.Ytpcapijakenjbaa.Lex
