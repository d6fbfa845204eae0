/- words: Cut. -/
import Derived.Test.YtgebfcdcpmmgnaaVlB
set_option linter.unusedVariables false
set_option linter.unusedSimpArgs false
namespace Go.Proofs.Ytgebfcdcpmmgnaa.Vs
open Go.RowKit
set_option maxRecDepth 100000
@[go_sem ↓] theorem lst_lt (n : Nat) (l : LSt) : V.lt n l.v = true := by cases l <;> rfl
@[go_sem ↓] theorem lst_ren (π : List Nat) (l : LSt) : V.ren π l.v = l.v := by cases l <;> rfl
def stepX (s : List UInt8) : LSt → LxS → LSt × LxS
  | .nil, x => (.nil, x)
  | .btw, x => btwR s x
  | .wrd, x => wrdR s x
  | .num, x => numR s x
  | .txt, x => txtR s x
def runX (s : List UInt8) : Nat → LSt → LxS → LxS
  | 0, _, x => x
  | n + 1, l, x => if l = .nil then x else runX s n (stepX s l x).1 (stepX s l x).2
def muX (s : List UInt8) (l : LSt) (x : LxS) : Nat := if l = .nil then 0 else if l = .btw then 2 * (s.length - x.pos) + 2 else 2 * (s.length - x.pos) + 1
/-- A text's tokens; where, which error. -/
def cutX (s : List UInt8) : LxS := runX s (2 * s.length + 3) .btw ⟨0, [], false, 0⟩
def cutS (s : List UInt8) : List TokS × Nat × Int := if 2000 < s.length then ([], 0, 3) else if (cutX s).bad then ([], (cutX s).pos, 2) else ((cutX s).out, 0, 0)
structure LxI (s : List UInt8) (l : LSt) (x : LxS) : Prop where
  pos : x.pos ≤ s.length
  out : x.out.length ≤ x.pos
  wrd : l = .wrd → x.pos < s.length ∧ letterB (s.getD x.pos 0) = true
  num : l = .num → x.pos < s.length ∧ digitB (s.getD x.pos 0) = true
  txt : l = .txt → x.pos < s.length
theorem spn_pos {p : UInt8 → Bool} {s : List UInt8} {pos : Nat} (h : pos < s.length) (hp : p (s.getD pos 0) = true) : 1 ≤ spn p s pos := by
  rcases Nat.eq_zero_or_pos (spn p s pos) with h0 | h0
  · have := spn_end p s pos
    rw [h0, Nat.add_zero] at this
    unfold moreB at this
    rw [decide_eq_true h, hp] at this
    cases this
  · exact h0
theorem textL_lt (s : List UInt8) : ∀ (n pos : Nat) (acc t : List UInt8) (q : Nat), pos ≤ s.length → textL s n pos acc = (some t, q) → pos < q ∧ q ≤ s.length
  | 0, _, _, _, _, _, h => by cases h
  | n + 1, pos, acc, t, q, hq, h => by
    have h1 := spn_le plainC s pos hq
    unfold textL at h
    split at h
    · rename_i hm
      have := more_lt hm
      injection h with _ h
      omega
    split at h
    · cases h
    split at h
    · cases h
    · rename_i hm
      have := more_lt (by simpa using hm : moreB _ s _ = true)
      have := textL_lt s n _ _ t q (by omega) h
      omega
theorem stepX_ok (s : List UInt8) (l : LSt) (x : LxS) (hl : l ≠ .nil) (hI : LxI s l x) : ((stepX s l x).1 = .nil ∨ LxI s (stepX s l x).1 (stepX s l x).2) ∧ muX s (stepX s l x).1 (stepX s l x).2 < muX s l x := by
  obtain ⟨i1, i2, i3, i4, i5⟩ := hI
  cases l with
  | nil => exact absurd rfl hl
  | btw =>
    show ((btwR s x).1 = .nil ∨ LxI s (btwR s x).1 (btwR s x).2) ∧ muX s (btwR s x).1 (btwR s x).2 < 2 * (s.length - x.pos) + 2
    have h1 := spn_le blankB s x.pos i1
    unfold btwR
    by_cases e1 : x.pos + spn blankB s x.pos = s.length
    · rw [if_pos e1]
      exact ⟨.inl rfl, by show 0 < _; omega⟩
    rw [if_neg e1]
    by_cases e2 : (s.getD (x.pos + spn blankB s x.pos) 0).toNat = 35
    · rw [if_pos e2]
      have h2 := spn_pos (p := lineB) (s := s) (pos := x.pos + spn blankB s x.pos) (by omega) (by unfold lineB; rw [e2]; rfl)
      have h3 := spn_le lineB s (x.pos + spn blankB s x.pos) h1
      exact ⟨.inr ⟨by simp only; omega, by simp only; omega, nofun, nofun, nofun⟩, by show 2 * (s.length - (x.pos + spn blankB s x.pos + spn lineB s (x.pos + spn blankB s x.pos))) + 2 < _; omega⟩
    rw [if_neg e2]
    cases e3 : letterB (s.getD (x.pos + spn blankB s x.pos) 0) with
    | true =>
      rw [if_pos rfl]
      exact ⟨.inr ⟨h1, by simp only; omega, fun _ => ⟨by simp only; omega, e3⟩, nofun, nofun⟩, by show 2 * (s.length - (x.pos + spn blankB s x.pos)) + 1 < _; omega⟩
    | false =>
      rw [if_neg (by decide)]
      cases e4 : digitB (s.getD (x.pos + spn blankB s x.pos) 0) with
      | true =>
        rw [if_pos rfl]
        exact ⟨.inr ⟨h1, by simp only; omega, nofun, fun _ => ⟨by simp only; omega, e4⟩, nofun⟩, by show 2 * (s.length - (x.pos + spn blankB s x.pos)) + 1 < _; omega⟩
      | false =>
        rw [if_neg (by decide)]
        by_cases e5 : (s.getD (x.pos + spn blankB s x.pos) 0).toNat = 34
        · rw [if_pos e5]
          exact ⟨.inr ⟨h1, by simp only; omega, nofun, nofun, fun _ => by simp only; omega⟩, by show 2 * (s.length - (x.pos + spn blankB s x.pos)) + 1 < _; omega⟩
        · rw [if_neg e5]
          exact ⟨.inl rfl, by show 0 < _; omega⟩
  | wrd =>
    obtain ⟨j1, j2⟩ := i3 rfl
    show ((wrdR s x).1 = .nil ∨ LxI s (wrdR s x).1 (wrdR s x).2) ∧ muX s (wrdR s x).1 (wrdR s x).2 < 2 * (s.length - x.pos) + 1
    have h1 := spn_le wordB s x.pos i1
    have h2 := spn_pos (p := wordB) j1 (by unfold wordB; rw [j2]; rfl)
    unfold wrdR
    by_cases e1 : 20 < spn wordB s x.pos
    · rw [if_pos e1]
      exact ⟨.inl rfl, by show 0 < _; omega⟩
    · rw [if_neg e1]
      exact ⟨.inr ⟨h1, by simp; omega, nofun, nofun, nofun⟩, by show 2 * (s.length - (x.pos + spn wordB s x.pos)) + 2 < _; omega⟩
  | num =>
    obtain ⟨j1, j2⟩ := i4 rfl
    show ((numR s x).1 = .nil ∨ LxI s (numR s x).1 (numR s x).2) ∧ muX s (numR s x).1 (numR s x).2 < 2 * (s.length - x.pos) + 1
    have h1 := spn_le digitB s x.pos i1
    have h2 := spn_pos (p := digitB) j1 j2
    unfold numR
    by_cases e1 : numBad s x.pos
    · rw [if_pos e1]
      exact ⟨.inl rfl, by show 0 < _; omega⟩
    · rw [if_neg e1]
      exact ⟨.inr ⟨h1, by simp; omega, nofun, nofun, nofun⟩, by show 2 * (s.length - (x.pos + spn digitB s x.pos)) + 2 < _; omega⟩
  | txt =>
    have j1 := i5 rfl
    show ((txtR s x).1 = .nil ∨ LxI s (txtR s x).1 (txtR s x).2) ∧ muX s (txtR s x).1 (txtR s x).2 < 2 * (s.length - x.pos) + 1
    unfold txtR
    cases ht : textL s (s.length + 1) (x.pos + 1) [] with
    | mk o q =>
      cases o with
      | none => exact ⟨.inl rfl, by show 0 < _; omega⟩
      | some t =>
        have h1 := textL_lt s _ _ _ t q (by omega) ht
        exact ⟨.inr ⟨h1.2, by simp; omega, nofun, nofun, nofun⟩, by show 2 * (s.length - q) + 2 < _; omega⟩
theorem state_fn (s : List UInt8) (l : LSt) (x : LxS) (hl : l ≠ .nil) (hI : LxI s l x) (hs : s.length ≤ 100000) : ∃ f, l.v = .fn (.func f) [] [] ∧ Fn Try.prog f [.ptr 0 0] (lxo s x) (stepX s l x).1.v (lxo s (stepX s l x).2) := by
  obtain ⟨i1, i2, i3, i4, i5⟩ := hI
  cases l with
  | nil => exact absurd rfl hl
  | btw => exact ⟨_, rfl, between_fn s x i1 hs⟩
  | wrd => exact ⟨_, rfl, word_fn s x i1 hs (by omega)⟩
  | num => exact ⟨_, rfl, number_fn s x i1 hs (by omega)⟩
  | txt => exact ⟨_, rfl, text_fn s x (i5 rfl) hs (by omega)⟩
set_option maxHeartbeats 4000000 in
theorem cut_fn (s : List UInt8) : Fn Try.prog 23 [bytes s] [] (.tup [.d (toksD (cutS s).1), i64 (cutS s).2.1, i64 (cutS s).2.2]) [] := by
  unfold cutS
  by_cases hl : 2000 < s.length
  · rw [if_pos hl]
    refine en Try.func23 (hfr := by (simp only [Try.ntmps23, go_sem, Nat.reduceSub, Nat.reduceAdd]; rfl)) ?_
    refine W.le (s := 0) rfl fun hm => ?_
    rw [List.length_map] at hm
    repeat' (first | exact absurd hb Bool.false_ne_true | exact absurd hb.symm Bool.false_ne_true | refine W.seq ?_ | refine W.block ?_ | (refine rg [] ?_; intro K hK) | (refine dr [] ?_; intro K hK) | refine oq ?_ | refine sk ?_ | (refine nk hK ?_; clear hK K) | (refine nd hK ?_; clear hK K) | refine sp ?_ | refine ex ?_ | (refine gs (fun hb => ?_) (fun hb => ?_) <;> replace hb := nb hb <;> try exact noB hb) | (refine cd (fun hb => ?_) (fun hb => ?_) <;> replace hb := nb hb <;> try exact noB hb) | (with_reducible refine Exists.intro _ (And.intro rfl ?_)) | ((with_reducible refine And.intro ?_ ?_); (focus exact sdA)) | fail)
    all_goals (refine rt ?_; refine fin ?_; exact wqA)
  rw [if_neg hl]
  unfold cutX
  generalize hR : runX s (2 * s.length + 3) .btw ⟨0, [], false, 0⟩ = R
  refine en Try.func23 (hfr := by (simp only [Try.ntmps23, go_sem, Nat.reduceSub, Nat.reduceAdd]; rfl)) ?_
  repeat' (first | exact absurd hb Bool.false_ne_true | exact absurd hb.symm Bool.false_ne_true | refine W.seq ?_ | refine W.block ?_ | (refine rgx [4] [] ?_; intro K hK) | (refine drx [4] [] ?_; intro K hK) | refine oq ?_ | refine sk ?_ | (refine nk hK ?_; clear hK K) | (refine nd hK ?_; clear hK K) | refine sp ?_ | refine ex ?_ | (refine gs (fun hb => ?_) (fun hb => ?_) <;> replace hb := nb hb <;> try exact noB hb) | (refine cd (fun hb => ?_) (fun hb => ?_) <;> replace hb := nb hb <;> try exact noB hb) | (with_reducible refine Exists.intro _ (And.intro rfl ?_)) | ((with_reducible refine And.intro ?_ ?_); (focus exact sdA)) | fail)
  refine W.ent (Ent.more 1) ?_
  refine W.ent (Ent.nilOwnC (i := 1) (j := 0) (q := 4) (e := 46) (us := [bytes s, i64 0, .own 4 [] 1, bool false, i64 0]) rfl rfl (by decide) ?_) ?_
  · skip
    repeat' (first | exact NoL.nil | refine NoL.own ?_ | refine NoL.cons ?_ ?_ | exact Wk.any | exact Wk.rfl)
  repeat' (first | exact absurd hb Bool.false_ne_true | exact absurd hb.symm Bool.false_ne_true | refine W.seq ?_ | refine W.block ?_ | (refine rgx [5] [] ?_; intro K hK) | (refine drx [5] [] ?_; intro K hK) | refine oq ?_ | refine sk ?_ | (refine nk hK ?_; clear hK K) | (refine nd hK ?_; clear hK K) | refine sp ?_ | refine ex ?_ | (refine gs (fun hb => ?_) (fun hb => ?_) <;> replace hb := nb hb <;> try exact noB hb) | (refine cd (fun hb => ?_) (fun hb => ?_) <;> replace hb := nb hb <;> try exact noB hb) | (with_reducible refine Exists.intro _ (And.intro rfl ?_)) | ((with_reducible refine And.intro ?_ ?_); (focus exact sdA)) | fail)
  refine W.lp (ι := LSt × LxS × Nat) (fun y => (ay 5 (.ptr 0 0 :: y.1.v :: ay 23 []))) (fun y => lxo s y.2.1) (fun y => (y.1 = .nil ∨ LxI s y.1 y.2.1) ∧ muX s y.1 y.2.1 < y.2.2 ∧ runX s y.2.2 y.1 y.2.1 = R) (fun y => y.2.2) (.btw, ⟨0, [], false, 0⟩, 2 * s.length + 3) ⟨.inr ⟨Nat.zero_le _, Nat.le_refl _, nofun, nofun, nofun⟩, by show 2 * (s.length - 0) + 2 < 2 * s.length + 3; omega, hR⟩ (Ent.to ?_ rfl) ?_
  · skip
    exact wkA
  rintro ⟨l, x, n⟩ ⟨h1, h2, h3⟩
  simp only at h1 h2 h3
  dsimp only
  cases n with
  | zero => omega
  | succ m =>
    unfold runX at h3
    by_cases hn : l = .nil
    · subst hn
      rw [if_pos rfl] at h3
      subst h3
      rw [show LSt.v .nil = .d .nilf from rfl]
      cases hb : x.bad with
      | true =>
        rw [if_pos rfl]
        have hb2 : ¬ x.bad = false := by rw [hb]; decide
        repeat' (first | exact absurd hb Bool.false_ne_true | exact absurd hb.symm Bool.false_ne_true | refine W.seq ?_ | refine W.block ?_ | (refine rg [] ?_; intro K hK) | (refine dr [] ?_; intro K hK) | refine oq ?_ | refine sk ?_ | (refine nk hK ?_; clear hK K) | (refine nd hK ?_; clear hK K) | refine sp ?_ | refine ex ?_ | (refine gs (fun hb => ?_) (fun hb => ?_) <;> replace hb := nb hb <;> try exact noB hb) | (refine cd (fun hb => ?_) (fun hb => ?_) <;> replace hb := nb hb <;> try exact noB hb) | (with_reducible refine Exists.intro _ (And.intro rfl ?_)) | ((with_reducible refine And.intro ?_ ?_); (focus exact sdA)) | fail)
        all_goals (refine rt ?_; refine fin ?_; exact wqA)
      | false =>
        rw [if_neg (by decide)]
        have hb2 : ¬ x.bad = true := by rw [hb]; decide
        repeat' (first | exact absurd hb Bool.false_ne_true | exact absurd hb.symm Bool.false_ne_true | refine W.seq ?_ | refine W.block ?_ | (refine rg [] ?_; intro K hK) | (refine dr [] ?_; intro K hK) | refine oq ?_ | refine sk ?_ | (refine nk hK ?_; clear hK K) | (refine nd hK ?_; clear hK K) | refine sp ?_ | refine ex ?_ | (refine gs (fun hb => ?_) (fun hb => ?_) <;> replace hb := nb hb <;> try exact noB hb) | (refine cd (fun hb => ?_) (fun hb => ?_) <;> replace hb := nb hb <;> try exact noB hb) | (with_reducible refine Exists.intro _ (And.intro rfl ?_)) | ((with_reducible refine And.intro ?_ ?_); (focus exact sdA)) | fail)
        all_goals (refine rt ?_; refine fin ?_; exact wqA)
    · rw [if_neg hn] at h3
      have hI := h1.resolve_left hn
      obtain ⟨f, hf, c⟩ := state_fn s l x hn hI (by omega)
      have ho := stepX_ok s l x hn hI
      rw [hf]
      repeat' (first | exact absurd hb Bool.false_ne_true | exact absurd hb.symm Bool.false_ne_true | refine W.seq ?_ | refine W.block ?_ | (refine rg [] ?_; intro K hK) | (refine dr [] ?_; intro K hK) | ((refine cle [0, 1] 0 (c) ?_ (hr := lst_lt ..))) | refine oq ?_ | refine sk ?_ | (refine nk hK ?_; clear hK K) | (refine nd hK ?_; clear hK K) | refine sp ?_ | refine ex ?_ | (refine gs (fun hb => ?_) (fun hb => ?_) <;> replace hb := nb hb <;> try exact noB hb) | (refine cd (fun hb => ?_) (fun hb => ?_) <;> replace hb := nb hb <;> try exact noB hb) | (with_reducible refine Exists.intro _ (And.intro rfl ?_)) | ((with_reducible refine And.intro ?_ ?_); (focus exact sdA)) | fail)
      refine nx ((stepX s l x).1, (stepX s l x).2, m) ⟨ho.1, by simp only; omega, h3⟩ (by simp only; omega) (sb [0, 1] _ _ (hf := ?_) (ha := by simp only [ay, V.ltL, V.lt, lst_lt]; rfl))
      exact wkA
end Go.Proofs.Ytgebfcdcpmmgnaa.Vs
