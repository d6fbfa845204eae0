/- words: the cutter cuts so. -/
import Derived.Test.YtgebfcdcpmmgnaaVlD
set_option linter.unusedVariables false
set_option linter.unusedSimpArgs false
namespace Go.Proofs.Ytgebfcdcpmmgnaa.Vs
open Go.RowKit
set_option maxRecDepth 100000
theorem drop_cons {s : List UInt8} {p : Nat} {c : UInt8} {r : List UInt8} (h : s.drop p = c :: r) : p < s.length ∧ s.getD p 0 = c ∧ s.drop (p + 1) = r := by
  have hl : p < s.length := by
    rcases Nat.lt_or_ge p s.length with h' | h'
    · exact h'
    · rw [List.drop_eq_nil_of_le h'] at h; cases h
  refine ⟨hl, ?_, ?_⟩
  · have := congrArg (fun l => l.getD 0 0) h
    simpa [List.getD_eq_getElem?_getD, List.getElem?_drop] using this
  · rw [← List.drop_drop, h]; rfl
theorem drop_nil' {s : List UInt8} {p : Nat} (h : s.drop p = []) : s.length ≤ p := by
  have := congrArg List.length h
  rw [List.length_drop] at this
  simp at this
  omega
theorem more_c {p : UInt8 → Bool} {s : List UInt8} {pos : Nat} {c : UInt8} {r : List UInt8} (h : s.drop pos = c :: r) : moreB p s pos = p c := by
  obtain ⟨h1, h2, _⟩ := drop_cons h
  unfold moreB
  rw [decide_eq_true h1, h2, Bool.true_and]
theorem more_n {p : UInt8 → Bool} {s : List UInt8} {pos : Nat} (h : s.drop pos = []) : moreB p s pos = false := by
  have := drop_nil' h
  unfold moreB
  rw [decide_eq_false (by omega), Bool.false_and]
theorem tw_split (p : UInt8 → Bool) (s : List UInt8) (pos : Nat) : s.drop pos = (s.drop pos).takeWhile p ++ s.drop (pos + spn p s pos) := by
  rw [← List.drop_drop, ← take_tw p s pos, List.take_append_drop]
theorem text_plain : ∀ (w r : List UInt8), (∀ c ∈ w, plainC c = true) → textR (w ++ r) = (textR r).map fun q => (w ++ q.1, w.length + q.2)
  | [], r, _ => by
    rw [List.nil_append]
    cases textR r with
    | none => rfl
    | some q => simp
  | c :: w, r, h => by
    have hc := of_decide_eq_true (h c (by simp))
    have ih := text_plain w r (fun d hd => h d (by simp [hd]))
    rw [List.cons_append, textR.eq_def]
    simp only
    rw [if_neg hc.2.1, if_neg (by omega), if_neg hc.2.2, ih]
    cases textR r with
    | none => rfl
    | some q => simp; omega
theorem textL_R (s : List UInt8) : ∀ (n pos : Nat) (acc : List UInt8), pos ≤ s.length → s.length < pos + n → (∀ t k, textR (s.drop pos) = some (t, k) → textL s n pos acc = (some (acc ++ t), pos + k)) ∧ (textR (s.drop pos) = none → (textL s n pos acc).1 = none)
  | 0, pos, acc, h1, h2 => by omega
  | n + 1, pos, acc, h1, h2 => by
    have hw := tw_all plainC (s.drop pos)
    have hs := tw_split plainC s pos
    have hsl := spn_le plainC s pos h1
    have hwl : ((s.drop pos).takeWhile plainC).length = spn plainC s pos := rfl
    have hend := spn_end plainC s pos
    unfold textL
    generalize hW : (s.drop pos).takeWhile plainC = w at *
    rw [hs, text_plain w _ hw]
    generalize hk : spn plainC s pos = kk at *
    generalize hq : pos + kk = q at *
    cases hr : s.drop q with
    | nil =>
      rw [more_n hr, if_neg (by decide), more_n hr, if_pos rfl]
      exact ⟨fun t k h => (nomatch h), fun _ => rfl⟩
    | cons c r =>
      obtain ⟨q1, q2, q3⟩ := drop_cons hr
      rw [more_c hr] at hend
      rw [more_c hr, more_c hr]
      by_cases e1 : c.toNat = 34
      · rw [decide_eq_true e1, if_pos rfl]
        have : textR (c :: r) = some ([], 1) := by rw [textR.eq_def]; simp only; rw [if_pos e1]
        rw [this]
        refine ⟨fun t k h => ?_, fun h => nomatch h⟩
        injection h with h; injection h with h1 h2
        subst h1; subst h2
        simp only [List.append_nil, Prod.mk.injEq, true_and]
        omega
      rw [decide_eq_false e1, if_neg (by decide)]
      by_cases e2 : c.toNat = 92
      · rw [decide_eq_true e2, if_neg (by decide)]
        cases r with
        | nil =>
          rw [more_n q3, if_pos rfl]
          have : textR [c] = none := by rw [textR.eq_def]; simp only; rw [if_neg e1, if_neg (by omega), if_pos e2]
          rw [this]
          exact ⟨fun t k h => (nomatch h), fun _ => rfl⟩
        | cons d r2 =>
          obtain ⟨p1, p2, p3⟩ := drop_cons q3
          rw [more_c q3, p2]
          by_cases e3 : d.toNat < 32
          · rw [decide_eq_false (by omega), if_pos rfl]
            have : textR (c :: d :: r2) = none := by rw [textR.eq_def]; simp only; rw [if_neg e1, if_neg (by omega), if_pos e2, if_pos e3]
            rw [this]
            exact ⟨fun t k h => (nomatch h), fun _ => rfl⟩
          · rw [decide_eq_true (by omega), if_neg (by decide)]
            have ht : textR (c :: d :: r2) = (textR r2).map fun p => ((if d.toNat = 34 then [] else [92]) ++ d :: p.1, p.2 + 2) := by rw [textR.eq_def]; simp only; rw [if_neg e1, if_neg (by omega), if_pos e2, if_neg e3]
            obtain ⟨ih1, ih2⟩ := textL_R s n (q + 1 + 1) (acc ++ w ++ (if d.toNat = 34 then [] else [92]) ++ [d]) (by omega) (by omega)
            rw [p3] at ih1 ih2
            rw [ht]
            cases hx : textR r2 with
            | none => exact ⟨fun t k h => (nomatch h), fun _ => ih2 hx⟩
            | some y =>
              refine ⟨fun t k h => ?_, fun h => nomatch h⟩
              injection h with h; injection h with h1 h2
              subst h1; subst h2
              rw [ih1 y.1 y.2 hx]
              simp only [List.append_assoc, List.singleton_append, Prod.mk.injEq, true_and]
              omega
      · rw [decide_eq_false e2, if_pos rfl]
        have : textR (c :: r) = none := by
          have : ¬ (32 ≤ c.toNat) := fun h => by
            unfold plainC at hend
            have := of_decide_eq_false hend
            exact this ⟨h, e1, e2⟩
          rw [textR.eq_def]; simp only; rw [if_neg e1, if_pos (by omega)]
        rw [this]
        exact ⟨fun t k h => (nomatch h), fun _ => rfl⟩
theorem gap_blank : ∀ (w r : List UInt8), (∀ c ∈ w, blankB c = true) → gapR (w ++ r) false = w.length + gapR r false
  | [], r, _ => by simp
  | c :: w, r, h => by
    have hc := h c (by simp)
    have ih := gap_blank w r (fun d hd => h d (by simp [hd]))
    have hn : c.toNat ≠ 35 := fun e => by
      unfold blankB at hc
      have := of_decide_eq_true hc
      omega
    rw [List.cons_append, gapR]
    by_cases e1 : c.toNat = 10
    · rw [if_pos e1, ih]; simp only [List.length_cons]; omega
    · rw [if_neg e1, if_neg (by decide), if_neg hn, if_pos hc, ih]; simp only [List.length_cons]; omega
theorem gap_line : ∀ (w r : List UInt8), (∀ c ∈ w, lineB c = true) → gapR (w ++ r) true = w.length + gapR r true
  | [], r, _ => by simp
  | c :: w, r, h => by
    have hc := of_decide_eq_true (h c (by simp))
    have ih := gap_line w r (fun d hd => h d (by simp [hd]))
    rw [List.cons_append, gapR, if_neg hc, if_pos rfl, ih]; simp only [List.length_cons]; omega
theorem gap_nl (r : List UInt8) (h : ∀ c r', r = c :: r' → c.toNat = 10) : gapR r true = gapR r false := by
  cases r with
  | nil => rfl
  | cons c r =>
    have hc := h c r rfl
    rw [gapR, if_pos hc, gapR, if_pos hc]
theorem Cuts.skip {p d : Nat} {r : List UInt8} {l : List TokS} (hd : d ≤ r.length) (hg : gapR r false = d + gapR (r.drop d) false) : Cuts p r l ↔ Cuts (p + d) (r.drop d) l := by
  constructor
  · intro h
    cases h with
    | done h => exact .done (by rw [List.length_drop]; omega)
    | tok h ht hc =>
      rename_i k n t len ts
      have e : r.drop (gapR r false) = (r.drop d).drop (gapR (r.drop d) false) := by rw [List.drop_drop, hg]
      have e2 : r.drop (gapR r false + len) = (r.drop d).drop (gapR (r.drop d) false + len) := by rw [List.drop_drop, hg]; congr 1; omega
      have := Cuts.tok (p := p + d) (r := r.drop d) (k := k) (n := n) (t := t) (len := len) (ts := ts) (by rw [List.length_drop]; omega) (by rw [← e]; exact ht) (by rw [← e2, show p + d + gapR (r.drop d) false + len = p + gapR r false + len by omega]; exact hc)
      rw [show p + gapR r false = p + d + gapR (r.drop d) false by omega]
      exact this
  · intro h
    cases h with
    | done h => exact .done (by rw [List.length_drop] at h; omega)
    | tok h ht hc =>
      rename_i k n t len ts
      have e : r.drop (gapR r false) = (r.drop d).drop (gapR (r.drop d) false) := by rw [List.drop_drop, hg]
      have e2 : r.drop (gapR r false + len) = (r.drop d).drop (gapR (r.drop d) false + len) := by rw [List.drop_drop, hg]; congr 1; omega
      have := Cuts.tok (p := p) (r := r) (k := k) (n := n) (t := t) (len := len) (ts := ts) (by rw [List.length_drop] at h; omega) (by rw [e]; exact ht) (by rw [e2, show p + gapR r false + len = p + d + gapR (r.drop d) false + len by omega]; exact hc)
      rw [show p + d + gapR (r.drop d) false = p + gapR r false by omega]
      exact this
theorem runX_nil (s : List UInt8) (n : Nat) (x : LxS) : runX s n .nil x = x := by cases n <;> rfl
/-- A token's step. -/
def tokX (s : List UInt8) (y : LxS) (z : LSt × LxS) : Prop :=
  match tokR (s.drop y.pos) with
  | some (k, n, t, len) => z = (.btw, { y with pos := y.pos + len, out := y.out ++ [⟨k, y.frm, n, t⟩] })
  | none => z.1 = .nil ∧ z.2.bad = true
theorem wrd_tok {s : List UInt8} {y : LxS} {c : UInt8} {r : List UInt8} (h : s.drop y.pos = c :: r) (hc : letterB c = true) : tokX s y (wrdR s y) := by
  unfold tokX wrdR
  have hl : spn wordB s y.pos = ((c :: r).takeWhile wordB).length := by unfold spn; rw [h]
  rw [h, hl, tokR, if_pos hc]
  by_cases e : 20 < ((c :: r).takeWhile wordB).length
  · rw [if_pos e, if_pos e]; exact ⟨rfl, rfl⟩
  · rw [if_neg e, if_neg e]
theorem num_tok {s : List UInt8} {y : LxS} {c : UInt8} {r : List UInt8} (h : s.drop y.pos = c :: r) (h0 : letterB c = false) (hc : digitB c = true) : tokX s y (numR s y) := by
  obtain ⟨_, hg, _⟩ := drop_cons h
  unfold tokX numR
  have hl : spn digitB s y.pos = ((c :: r).takeWhile digitB).length := by unfold spn; rw [h]
  have hb : numBad s y.pos ↔ (4 < ((c :: r).takeWhile digitB).length ∨ 1 < ((c :: r).takeWhile digitB).length ∧ c.toNat = 48) := by
    unfold numBad; rw [hl, hg]
  rw [h, tokR, if_neg (by rw [h0]; decide), if_pos hc]
  by_cases e : numBad s y.pos
  · rw [if_pos e, if_pos (hb.1 e)]; exact ⟨rfl, rfl⟩
  · rw [if_neg e, if_neg (fun h => e (hb.2 h)), hl]
theorem txt_tok {s : List UInt8} {y : LxS} {c : UInt8} {r : List UInt8} (h : s.drop y.pos = c :: r) (h0 : letterB c = false) (h1 : digitB c = false) (hc : c.toNat = 34) : tokX s y (txtR s y) := by
  obtain ⟨hl, _, hd⟩ := drop_cons h
  unfold tokX txtR
  obtain ⟨k1, k2⟩ := textL_R s (s.length + 1) (y.pos + 1) [] (by omega) (by omega)
  rw [hd] at k1 k2
  rw [h, tokR, if_neg (by rw [h0]; decide), if_neg (by rw [h1]; decide), if_pos hc]
  cases ht : textR r with
  | none =>
    have := k2 ht
    cases hx : textL s (s.length + 1) (y.pos + 1) [] with
    | mk o q =>
      rw [hx] at this
      simp only at this
      subst this
      exact ⟨rfl, rfl⟩
  | some p =>
    rw [k1 p.1 p.2 ht]
    show (LSt.btw, _) = (LSt.btw, _)
    simp only [List.nil_append, Prod.mk.injEq, LxS.mk.injEq, and_self, and_true, true_and]
    omega
theorem run_cuts (s : List UInt8) : ∀ (n : Nat) (x : LxS), x.pos ≤ s.length → x.bad = false → muX s .btw x < n →
    (∀ l, Cuts x.pos (s.drop x.pos) l → (runX s n .btw x).bad = false ∧ (runX s n .btw x).out = x.out ++ l) ∧ ((runX s n .btw x).bad = false → ∃ l, Cuts x.pos (s.drop x.pos) l)
  | 0, x, _, _, h => by omega
  | n + 1, x, hp, hb, hm => by
    have hm : 2 * (s.length - x.pos) + 2 < n + 1 := hm
    have hrun : runX s (n + 1) .btw x = runX s n (btwR s x).1 (btwR s x).2 := by rw [runX, if_neg (by decide)]; rfl
    rw [hrun]
    have hbl := spn_le blankB s x.pos hp
    have hsp := tw_split blankB s x.pos
    have hbend := spn_end blankB s x.pos
    have hg1 : gapR (s.drop x.pos) false = spn blankB s x.pos + gapR (s.drop (x.pos + spn blankB s x.pos)) false := by
      have := gap_blank ((s.drop x.pos).takeWhile blankB) (s.drop (x.pos + spn blankB s x.pos)) (tw_all blankB _)
      rw [← hsp] at this
      exact this
    have hskip : ∀ l, Cuts x.pos (s.drop x.pos) l ↔ Cuts (x.pos + spn blankB s x.pos) (s.drop (x.pos + spn blankB s x.pos)) l := fun l => by
      rw [← List.drop_drop]
      refine Cuts.skip (by rw [List.length_drop]; omega) ?_
      rw [List.drop_drop]; exact hg1
    unfold btwR
    generalize hq : x.pos + spn blankB s x.pos = q at *
    cases hr : s.drop q with
    | nil =>
      have hql := drop_nil' hr
      rw [if_pos (by omega), runX_nil]
      rw [hr] at hskip
      refine ⟨fun l h => ?_, fun _ => ⟨[], (hskip []).2 (.done rfl)⟩⟩
      have h2 := (hskip l).1 h
      cases h2 with
      | done _ => exact ⟨hb, by simp⟩
      | tok h3 _ _ => simp at h3
    | cons c r =>
      obtain ⟨hql, hqc, hqd⟩ := drop_cons hr
      rw [more_c hr] at hbend
      rw [if_neg (by omega), hqc]
      by_cases e1 : c.toNat = 35
      · rw [if_pos e1]
        have hll := spn_le lineB s q (by omega)
        have hl1 := spn_pos (p := lineB) hql (by rw [hqc]; unfold lineB; rw [e1]; rfl)
        have hls := tw_split lineB s q
        have hlend := spn_end lineB s q
        have hg2 : gapR (s.drop q) false = spn lineB s q + gapR (s.drop (q + spn lineB s q)) false := by
          have h1 := gap_line ((s.drop q).takeWhile lineB) (s.drop (q + spn lineB s q)) (tw_all lineB _)
          rw [← hls] at h1
          rw [gap_nl (s.drop (q + spn lineB s q)) (fun c' r' h => by
            rw [more_c h] at hlend
            unfold lineB at hlend
            have := of_decide_eq_false hlend
            omega)] at h1
          have h3 : gapR (s.drop q) false = gapR (s.drop q) true := by
            rw [hr, gapR, if_neg (by omega), if_neg (by decide), if_pos e1, gapR, if_neg (by omega), if_pos rfl]
          rw [h3, h1]
          rfl
        obtain ⟨i1, i2⟩ := run_cuts s n { x with pos := q + spn lineB s q, frm := q } (by simp only; omega) hb (by show 2 * (s.length - (q + spn lineB s q)) + 2 < n; omega)
        have hskip2 : ∀ l, Cuts q (s.drop q) l ↔ Cuts (q + spn lineB s q) (s.drop (q + spn lineB s q)) l := fun l => by
          have h1 : s.drop (q + spn lineB s q) = (s.drop q).drop (spn lineB s q) := by rw [List.drop_drop]
          rw [h1] at hg2 ⊢
          exact Cuts.skip (by rw [List.length_drop]; omega) hg2
        exact ⟨fun l h => i1 l ((hskip2 l).1 ((hskip l).1 h)), fun h => let ⟨l, hl⟩ := i2 h; ⟨l, (hskip l).2 ((hskip2 l).2 hl)⟩⟩
      rw [if_neg e1]
      have hg0 : gapR (s.drop q) false = 0 := by
        rw [hr]
        refine gap_zero (fun e => ?_) e1 hbend
        unfold blankB at hbend
        have := of_decide_eq_false hbend
        omega
      -- a token's step, from y
      have main : ∀ (l : LSt), (l = .wrd ∨ l = .num ∨ l = .txt) → tokX s ⟨q, x.out, x.bad, q⟩ (stepX s l ⟨q, x.out, x.bad, q⟩) → (∀ l', Cuts x.pos (s.drop x.pos) l' → (runX s n l ⟨q, x.out, x.bad, q⟩).bad = false ∧ (runX s n l ⟨q, x.out, x.bad, q⟩).out = x.out ++ l') ∧ ((runX s n l ⟨q, x.out, x.bad, q⟩).bad = false → ∃ l', Cuts x.pos (s.drop x.pos) l') := by
        intro l hl htk
        have hln : ¬ l = .nil := by rcases hl with rfl | rfl | rfl <;> decide
        obtain ⟨n', rfl⟩ : ∃ k, n = k + 1 := ⟨n - 1, by omega⟩
        have hrun2 : runX s (n' + 1) l ⟨q, x.out, x.bad, q⟩ = runX s n' (stepX s l ⟨q, x.out, x.bad, q⟩).1 (stepX s l ⟨q, x.out, x.bad, q⟩).2 := by rw [runX, if_neg hln]
        rw [hrun2]
        unfold tokX at htk
        simp only at htk
        cases htr : tokR (s.drop q) with
        | none =>
          rw [htr] at htk
          simp only at htk
          rw [htk.1, runX_nil]
          refine ⟨fun l' h => ?_, fun h => by rw [htk.2] at h; cases h⟩
          have h2 := (hskip l').1 h
          cases h2 with
          | done h3 => rw [hg0, hr] at h3; simp at h3
          | tok h3 ht _ => rw [hg0, List.drop_zero, htr] at ht; cases ht
        | some z =>
          obtain ⟨k, m, t, len⟩ := z
          rw [htr] at htk
          simp only at htk
          rw [htk]
          have hb2 := (tok_take htr).1
          rw [List.length_drop] at hb2
          obtain ⟨i1, i2⟩ := run_cuts s n' ⟨q + len, x.out ++ [⟨k, q, m, t⟩], x.bad, q⟩ (by simp only; omega) hb (by show 2 * (s.length - (q + len)) + 2 < n'; omega)
          have hd : (s.drop q).drop len = s.drop (q + len) := by rw [List.drop_drop]
          refine ⟨fun l' h => ?_, fun h => ?_⟩
          · have h2 := (hskip l').1 h
            cases h2 with
            | done h3 => rw [hg0, hr] at h3; simp at h3
            | tok h3 ht hc =>
              rename_i k2 m2 t2 len2 ts
              rw [hg0, List.drop_zero, htr] at ht
              injection ht with ht; injection ht with t1 ht; injection ht with t2' ht; injection ht with t3 t4
              subst t1; subst t2'; subst t3; subst t4
              rw [hg0, Nat.add_zero, Nat.zero_add, hd] at hc
              obtain ⟨j1, j2⟩ := i1 ts hc
              refine ⟨j1, ?_⟩
              rw [j2, hg0, Nat.add_zero, List.append_assoc]
              rfl
          · obtain ⟨ts, hts⟩ := i2 h
            have := Cuts.tok (p := q) (r := s.drop q) (k := k) (n := m) (t := t) (len := len) (ts := ts) (by rw [hg0, hr]; simp) (by rw [hg0, List.drop_zero]; exact htr) (by rw [hg0, Nat.add_zero, Nat.zero_add, hd]; exact hts)
            exact ⟨_, (hskip _).2 this⟩
      cases e2 : letterB c with
      | true =>
        rw [if_pos rfl]
        exact main .wrd (.inl rfl) (wrd_tok (y := ⟨q, x.out, x.bad, q⟩) hr e2)
      | false =>
        rw [if_neg (by decide)]
        cases e3 : digitB c with
        | true =>
          rw [if_pos rfl]
          exact main .num (.inr (.inl rfl)) (num_tok (y := ⟨q, x.out, x.bad, q⟩) hr e2 e3)
        | false =>
          rw [if_neg (by decide)]
          by_cases e4 : c.toNat = 34
          · rw [if_pos e4]
            exact main .txt (.inr (.inr rfl)) (txt_tok (y := ⟨q, x.out, x.bad, q⟩) hr e2 e3 e4)
          · rw [if_neg e4, runX_nil]
            refine ⟨fun l' h => ?_, fun h => nomatch h⟩
            have h2 := (hskip l').1 h
            have htr : tokR (s.drop q) = none := by rw [hr, tokR, if_neg (by rw [e2]; decide), if_neg (by rw [e3]; decide), if_neg e4]
            cases h2 with
            | done h3 => rw [hg0, hr] at h3; simp at h3
            | tok h3 ht _ => rw [hg0, List.drop_zero, htr] at ht; cases ht
theorem cut_cuts (s : List UInt8) (l : List TokS) (hs : s.length ≤ 2000) (h : Cuts 0 s l) : cutS s = (l, 0, 0) := by
  have := (run_cuts s (2 * s.length + 3) ⟨0, [], false, 0⟩ (Nat.zero_le _) rfl (by show 2 * (s.length - 0) + 2 < _; omega)).1 l h
  unfold cutS cutX
  rw [if_neg (by omega), this.1, if_neg (by decide), this.2]
  rfl
theorem cuts_cut (s : List UInt8) (h : (cutS s).2.2 = 0) : s.length ≤ 2000 ∧ Cuts 0 s (cutS s).1 := by
  by_cases hs : 2000 < s.length
  · unfold cutS at h; rw [if_pos hs] at h; cases h
  · have h2 := (run_cuts s (2 * s.length + 3) ⟨0, [], false, 0⟩ (Nat.zero_le _) rfl (by show 2 * (s.length - 0) + 2 < _; omega)).2
    have hb : (cutX s).bad = false := by
      cases hx : (cutX s).bad with
      | false => rfl
      | true => unfold cutS at h; rw [if_neg hs, hx, if_pos rfl] at h; cases h
    obtain ⟨l, hl⟩ := h2 hb
    refine ⟨by omega, ?_⟩
    rw [cut_cuts s l (by omega) hl]
    exact hl
end Go.Proofs.Ytgebfcdcpmmgnaa.Vs
