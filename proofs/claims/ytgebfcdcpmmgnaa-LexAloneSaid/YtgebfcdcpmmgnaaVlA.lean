/- words: bytes passed; tokens added. -/
import Derived.Test.YtgebfcdcpmmgnaaVsXa
set_option linter.unusedVariables false
set_option linter.unusedSimpArgs false
namespace Go.Proofs.Ytgebfcdcpmmgnaa.Vs
open Go.RowKit
set_option maxRecDepth 100000
structure TokS where
  kind : Int
  pos : Nat
  n : Nat
  text : List UInt8
deriving DecidableEq
abbrev tokD (x : TokS) : D := .agg [.int .i64 x.kind, .int .i64 (x.pos : Int), .int .i64 (x.n : Int), .sl 1 (x.text.map u8)]
abbrev toksD (l : List TokS) : D := .sl 4 (l.map tokD)
def TokS.zero : TokS := ⟨0, 0, 0, []⟩
@[go_sem] theorem gd_tok (l : List TokS) (n : Nat) : (l.map tokD).getD n (.agg [.int .i64 0, .int .i64 0, .int .i64 0, .sl 1 []]) = tokD (l.getD n TokS.zero) := gd_map tokD l n TokS.zero
/-- A cutter: the text, where, the tokens so far, is it bad, where the last one begins. -/
abbrev lxs (s : List UInt8) (pos : Nat) (out : List TokS) (bad : Bool) (frm : Nat) : List Ob := [.cells 113 [bytes s, i64 pos, .own 4 (out.map tokD) 1, bool bad, i64 frm], .cap 46 4 out.length]
/-- A function tells of bytes what p does. -/
def PredF (f : FuncId) (p : UInt8 → Bool) : Prop := ∀ b : UInt8, Fn Try.prog f [.d (u8 b)] [] (bool (p b)) []
def digitB (c : UInt8) : Bool := decide (48 ≤ c.toNat ∧ c.toNat ≤ 57)
def letterB (c : UInt8) : Bool := decide (97 ≤ c.toNat ∧ c.toNat ≤ 122)
def blankB (c : UInt8) : Bool := decide (c.toNat = 32 ∨ c.toNat = 9 ∨ c.toNat = 10 ∨ c.toNat = 13)
def wordB (c : UInt8) : Bool := letterB c || digitB c || decide (c.toNat = 95)
def lineB (c : UInt8) : Bool := decide (c.toNat ≠ 10)
def plainC (c : UInt8) : Bool := decide (32 ≤ c.toNat ∧ c.toNat ≠ 34 ∧ c.toNat ≠ 92)
theorem digit_p : PredF 86 digitB := fun c => by
  refine en Try.func86 (hfr := by (simp only [Try.ntmps86, go_sem, Nat.reduceSub, Nat.reduceAdd]; rfl)) ?_
  repeat' (first | exact absurd hb Bool.false_ne_true | exact absurd hb.symm Bool.false_ne_true | refine W.seq ?_ | refine W.block ?_ | (refine rg [] ?_; intro K hK) | (refine dr [] ?_; intro K hK) | refine oq ?_ | refine sk ?_ | (refine nk hK ?_; clear hK K) | (refine nd hK ?_; clear hK K) | refine sp ?_ | refine ex ?_ | (refine gs (fun hb => ?_) (fun hb => ?_) <;> replace hb := nb hb <;> try exact noB hb) | (refine cd (fun hb => ?_) (fun hb => ?_) <;> replace hb := nb hb <;> try exact noB hb) | (with_reducible refine Exists.intro _ (And.intro rfl ?_)) | ((with_reducible refine And.intro ?_ ?_); (focus exact sdA)) | fail)
  all_goals (refine rt ?_; refine fin ?_; refine Wk.bool ?_; unfold digitB; rw [Bool.eq_iff_iff]; simp; try omega)
theorem letter_p : PredF 84 letterB := fun c => by
  refine en Try.func84 (hfr := by (simp only [Try.ntmps84, go_sem, Nat.reduceSub, Nat.reduceAdd]; rfl)) ?_
  repeat' (first | exact absurd hb Bool.false_ne_true | exact absurd hb.symm Bool.false_ne_true | refine W.seq ?_ | refine W.block ?_ | (refine rg [] ?_; intro K hK) | (refine dr [] ?_; intro K hK) | refine oq ?_ | refine sk ?_ | (refine nk hK ?_; clear hK K) | (refine nd hK ?_; clear hK K) | refine sp ?_ | refine ex ?_ | (refine gs (fun hb => ?_) (fun hb => ?_) <;> replace hb := nb hb <;> try exact noB hb) | (refine cd (fun hb => ?_) (fun hb => ?_) <;> replace hb := nb hb <;> try exact noB hb) | (with_reducible refine Exists.intro _ (And.intro rfl ?_)) | ((with_reducible refine And.intro ?_ ?_); (focus exact sdA)) | fail)
  all_goals (refine rt ?_; refine fin ?_; refine Wk.bool ?_; unfold letterB; rw [Bool.eq_iff_iff]; simp; try omega)
theorem blank_p : PredF 82 blankB := fun c => by
  refine en Try.func82 (hfr := by (simp only [Try.ntmps82, go_sem, Nat.reduceSub, Nat.reduceAdd]; rfl)) ?_
  repeat' (first | exact absurd hb Bool.false_ne_true | exact absurd hb.symm Bool.false_ne_true | refine W.seq ?_ | refine W.block ?_ | (refine rg [] ?_; intro K hK) | (refine dr [] ?_; intro K hK) | refine oq ?_ | refine sk ?_ | (refine nk hK ?_; clear hK K) | (refine nd hK ?_; clear hK K) | refine sp ?_ | refine ex ?_ | (refine gs (fun hb => ?_) (fun hb => ?_) <;> replace hb := nb hb <;> try exact noB hb) | (refine cd (fun hb => ?_) (fun hb => ?_) <;> replace hb := nb hb <;> try exact noB hb) | (with_reducible refine Exists.intro _ (And.intro rfl ?_)) | ((with_reducible refine And.intro ?_ ?_); (focus exact sdA)) | fail)
  all_goals (refine rt ?_; refine fin ?_; refine Wk.bool ?_; unfold blankB; rw [Bool.eq_iff_iff]; simp; try omega)
theorem line_p : PredF 83 lineB := fun c => by
  refine en Try.func83 (hfr := by (simp only [Try.ntmps83, go_sem, Nat.reduceSub, Nat.reduceAdd]; rfl)) ?_
  repeat' (first | exact absurd hb Bool.false_ne_true | exact absurd hb.symm Bool.false_ne_true | refine W.seq ?_ | refine W.block ?_ | (refine rg [] ?_; intro K hK) | (refine dr [] ?_; intro K hK) | refine oq ?_ | refine sk ?_ | (refine nk hK ?_; clear hK K) | (refine nd hK ?_; clear hK K) | refine sp ?_ | refine ex ?_ | (refine gs (fun hb => ?_) (fun hb => ?_) <;> replace hb := nb hb <;> try exact noB hb) | (refine cd (fun hb => ?_) (fun hb => ?_) <;> replace hb := nb hb <;> try exact noB hb) | (with_reducible refine Exists.intro _ (And.intro rfl ?_)) | ((with_reducible refine And.intro ?_ ?_); (focus exact sdA)) | fail)
  all_goals (refine rt ?_; refine fin ?_; refine Wk.bool ?_; unfold lineB; rw [Bool.eq_iff_iff]; simp; try omega)
theorem word_p : PredF 118 wordB := fun c => by
  have c1 := letter_p c
  have c2 := digit_p c
  refine en Try.func118 (hfr := by (simp only [Try.ntmps118, go_sem, Nat.reduceSub, Nat.reduceAdd]; rfl)) ?_
  repeat' (first | exact absurd hb Bool.false_ne_true | exact absurd hb.symm Bool.false_ne_true | refine W.seq ?_ | refine W.block ?_ | (refine rg [] ?_; intro K hK) | (refine dr [] ?_; intro K hK) | refine cl (c1) ?_ | refine cl (c2) ?_ | refine oq ?_ | refine sk ?_ | (refine nk hK ?_; clear hK K) | (refine nd hK ?_; clear hK K) | refine sp ?_ | refine ex ?_ | (refine gs (fun hb => ?_) (fun hb => ?_) <;> replace hb := nb hb <;> try exact noB hb) | (refine cd (fun hb => ?_) (fun hb => ?_) <;> replace hb := nb hb <;> try exact noB hb) | (with_reducible refine Exists.intro _ (And.intro rfl ?_)) | ((with_reducible refine And.intro ?_ ?_); (focus exact sdA)) | fail)
  all_goals (refine rt ?_; refine fin ?_; refine Wk.bool ?_; unfold wordB; rw [Bool.eq_iff_iff]; simp_all; try omega)
theorem plain_p : PredF 120 plainC := fun c => by
  refine en Try.func120 (hfr := by (simp only [Try.ntmps120, go_sem, Nat.reduceSub, Nat.reduceAdd]; rfl)) ?_
  repeat' (first | exact absurd hb Bool.false_ne_true | exact absurd hb.symm Bool.false_ne_true | refine W.seq ?_ | refine W.block ?_ | (refine rg [] ?_; intro K hK) | (refine dr [] ?_; intro K hK) | refine oq ?_ | refine sk ?_ | (refine nk hK ?_; clear hK K) | (refine nd hK ?_; clear hK K) | refine sp ?_ | refine ex ?_ | (refine gs (fun hb => ?_) (fun hb => ?_) <;> replace hb := nb hb <;> try exact noB hb) | (refine cd (fun hb => ?_) (fun hb => ?_) <;> replace hb := nb hb <;> try exact noB hb) | (with_reducible refine Exists.intro _ (And.intro rfl ?_)) | ((with_reducible refine And.intro ?_ ?_); (focus exact sdA)) | fail)
  all_goals (refine rt ?_; refine fin ?_; refine Wk.bool ?_; unfold plainC; rw [Bool.eq_iff_iff]; simp; try omega)
theorem quote_p : PredF 121 (fun c => decide (c.toNat = 34)) := fun c => by
  refine en Try.func121 (hfr := by (simp only [Try.ntmps121, go_sem, Nat.reduceSub, Nat.reduceAdd]; rfl)) ?_
  repeat' (first | exact absurd hb Bool.false_ne_true | exact absurd hb.symm Bool.false_ne_true | refine W.seq ?_ | refine W.block ?_ | (refine rg [] ?_; intro K hK) | (refine dr [] ?_; intro K hK) | refine oq ?_ | refine sk ?_ | (refine nk hK ?_; clear hK K) | (refine nd hK ?_; clear hK K) | refine sp ?_ | refine ex ?_ | (refine gs (fun hb => ?_) (fun hb => ?_) <;> replace hb := nb hb <;> try exact noB hb) | (refine cd (fun hb => ?_) (fun hb => ?_) <;> replace hb := nb hb <;> try exact noB hb) | (with_reducible refine Exists.intro _ (And.intro rfl ?_)) | ((with_reducible refine And.intro ?_ ?_); (focus exact sdA)) | fail)
  all_goals (refine rt ?_; refine fin ?_; refine Wk.bool ?_; rw [Bool.eq_iff_iff]; simp; try omega)
theorem slash_p : PredF 122 (fun c => decide (c.toNat = 92)) := fun c => by
  refine en Try.func122 (hfr := by (simp only [Try.ntmps122, go_sem, Nat.reduceSub, Nat.reduceAdd]; rfl)) ?_
  repeat' (first | exact absurd hb Bool.false_ne_true | exact absurd hb.symm Bool.false_ne_true | refine W.seq ?_ | refine W.block ?_ | (refine rg [] ?_; intro K hK) | (refine dr [] ?_; intro K hK) | refine oq ?_ | refine sk ?_ | (refine nk hK ?_; clear hK K) | (refine nd hK ?_; clear hK K) | refine sp ?_ | refine ex ?_ | (refine gs (fun hb => ?_) (fun hb => ?_) <;> replace hb := nb hb <;> try exact noB hb) | (refine cd (fun hb => ?_) (fun hb => ?_) <;> replace hb := nb hb <;> try exact noB hb) | (with_reducible refine Exists.intro _ (And.intro rfl ?_)) | ((with_reducible refine And.intro ?_ ?_); (focus exact sdA)) | fail)
  all_goals (refine rt ?_; refine fin ?_; refine Wk.bool ?_; rw [Bool.eq_iff_iff]; simp; try omega)
theorem print_p : PredF 123 (fun c => decide (32 ≤ c.toNat)) := fun c => by
  refine en Try.func123 (hfr := by (simp only [Try.ntmps123, go_sem, Nat.reduceSub, Nat.reduceAdd]; rfl)) ?_
  repeat' (first | exact absurd hb Bool.false_ne_true | exact absurd hb.symm Bool.false_ne_true | refine W.seq ?_ | refine W.block ?_ | (refine rg [] ?_; intro K hK) | (refine dr [] ?_; intro K hK) | refine oq ?_ | refine sk ?_ | (refine nk hK ?_; clear hK K) | (refine nd hK ?_; clear hK K) | refine sp ?_ | refine ex ?_ | (refine gs (fun hb => ?_) (fun hb => ?_) <;> replace hb := nb hb <;> try exact noB hb) | (refine cd (fun hb => ?_) (fun hb => ?_) <;> replace hb := nb hb <;> try exact noB hb) | (with_reducible refine Exists.intro _ (And.intro rfl ?_)) | ((with_reducible refine And.intro ?_ ?_); (focus exact sdA)) | fail)
  all_goals (refine rt ?_; refine fin ?_; refine Wk.bool ?_; rw [Bool.eq_iff_iff]; simp; try omega)
def moreB (p : UInt8 → Bool) (s : List UInt8) (pos : Nat) : Bool := decide (pos < s.length) && p (s.getD pos 0)
set_option maxHeartbeats 4000000 in
theorem more_fn {f : FuncId} {p : UInt8 → Bool} (hp : PredF f p) (s : List UInt8) (pos : Nat) (out : List TokS) (bad : Bool) (frm : Nat) : Fn Try.prog 117 [.ptr 0 0, .fn (.func f) [] []] (lxs s pos out bad frm) (bool (moreB p s pos)) (lxs s pos out bad frm) := by
  have c := hp (s.getD pos 0)
  unfold moreB
  by_cases h : pos < s.length
  · rw [decide_eq_true h, Bool.true_and]
    refine en Try.func117 (hfr := by (simp only [Try.ntmps117, go_sem, Nat.reduceSub, Nat.reduceAdd]; rfl)) ?_
    repeat' (first | exact absurd hb Bool.false_ne_true | exact absurd hb.symm Bool.false_ne_true | refine W.seq ?_ | refine W.block ?_ | (refine rg [] ?_; intro K hK) | (refine dr [] ?_; intro K hK) | refine cl (c) ?_ | refine oq ?_ | refine sk ?_ | (refine nk hK ?_; clear hK K) | (refine nd hK ?_; clear hK K) | refine sp ?_ | refine ex ?_ | (refine gs (fun hb => ?_) (fun hb => ?_) <;> replace hb := nb hb <;> try exact noB hb) | (refine cd (fun hb => ?_) (fun hb => ?_) <;> replace hb := nb hb <;> try exact noB hb) | (with_reducible refine Exists.intro _ (And.intro rfl ?_)) | ((with_reducible refine And.intro ?_ ?_); (focus exact sdA)) | fail)
    all_goals (refine rt ?_; refine fin ?_; exact wqA)
  · rw [decide_eq_false h, Bool.false_and]
    refine en Try.func117 (hfr := by (simp only [Try.ntmps117, go_sem, Nat.reduceSub, Nat.reduceAdd]; rfl)) ?_
    repeat' (first | exact absurd hb Bool.false_ne_true | exact absurd hb.symm Bool.false_ne_true | refine W.seq ?_ | refine W.block ?_ | (refine rg [] ?_; intro K hK) | (refine dr [] ?_; intro K hK) | refine cl (c) ?_ | refine oq ?_ | refine sk ?_ | (refine nk hK ?_; clear hK K) | (refine nd hK ?_; clear hK K) | refine sp ?_ | refine ex ?_ | (refine gs (fun hb => ?_) (fun hb => ?_) <;> replace hb := nb hb <;> try exact noB hb) | (refine cd (fun hb => ?_) (fun hb => ?_) <;> replace hb := nb hb <;> try exact noB hb) | (with_reducible refine Exists.intro _ (And.intro rfl ?_)) | ((with_reducible refine And.intro ?_ ?_); (focus exact sdA)) | fail)
    all_goals (refine rt ?_; refine fin ?_; exact wqA)
/-- How many bytes are passed. -/
def spn (p : UInt8 → Bool) (s : List UInt8) (pos : Nat) : Nat := ((s.drop pos).takeWhile p).length
theorem tw_len (p : UInt8 → Bool) : ∀ (l : List UInt8) (i : Nat), (i < (l.takeWhile p).length → i < l.length ∧ p (l.getD i 0) = true) ∧ (i = (l.takeWhile p).length → ¬ (i < l.length ∧ p (l.getD i 0) = true)) ∧ (l.takeWhile p).length ≤ l.length
  | [], i => ⟨fun h => by simp at h, fun h => by simp, by simp⟩
  | c :: l, i => by
    cases hc : p c with
    | false =>
      rw [List.takeWhile_cons_of_neg (by rw [hc]; decide)]
      refine ⟨fun h => by simp at h, fun h => ?_, by simp⟩
      simp only [List.length_nil] at h
      subst h
      simp [hc]
    | true =>
      rw [List.takeWhile_cons_of_pos hc]
      obtain ⟨_, _, h3⟩ := tw_len p l 0
      refine ⟨fun h => ?_, fun h => ?_, by simpa using h3⟩
      · cases i with
        | zero => exact ⟨by simp, by simpa using hc⟩
        | succ i =>
          have := (tw_len p l i).1 (by simpa using h)
          exact ⟨by simpa using this.1, by simpa using this.2⟩
      · cases i with
        | zero => simp at h
        | succ i =>
          have := (tw_len p l i).2.1 (by simpa using h)
          simpa using this
theorem spn_at (p : UInt8 → Bool) (s : List UInt8) (pos i : Nat) (h : i < spn p s pos) : moreB p s (pos + i) = true := by
  obtain ⟨h1, h2⟩ := (tw_len p (s.drop pos) i).1 h
  unfold moreB
  rw [List.length_drop] at h1
  rw [List.getD_eq_getElem?_getD, List.getElem?_drop, ← List.getD_eq_getElem?_getD] at h2
  rw [decide_eq_true (show pos + i < s.length by omega), h2]; rfl
theorem spn_end (p : UInt8 → Bool) (s : List UInt8) (pos : Nat) : moreB p s (pos + spn p s pos) = false := by
  have h1 := (tw_len p (s.drop pos) (spn p s pos)).2.1 rfl
  unfold moreB
  rw [List.length_drop, List.getD_eq_getElem?_getD, List.getElem?_drop, ← List.getD_eq_getElem?_getD] at h1
  cases h2 : p (s.getD (pos + spn p s pos) 0) with
  | false => rw [Bool.and_false]
  | true => rw [Bool.and_true]; exact decide_eq_false (fun h => h1 ⟨by omega, h2⟩)
theorem spn_le (p : UInt8 → Bool) (s : List UInt8) (pos : Nat) (h : pos ≤ s.length) : pos + spn p s pos ≤ s.length := by
  have := (tw_len p (s.drop pos) 0).2.2
  unfold spn
  rw [List.length_drop] at this
  omega
theorem take_tw (p : UInt8 → Bool) (s : List UInt8) (pos : Nat) : (s.drop pos).take (spn p s pos) = (s.drop pos).takeWhile p := by
  unfold spn
  generalize s.drop pos = l
  induction l with
  | nil => rfl
  | cons c l ih =>
    cases hc : p c with
    | false => rw [List.takeWhile_cons_of_neg (by rw [hc]; decide)]; rfl
    | true => rw [List.takeWhile_cons_of_pos hc, List.length_cons, List.take_succ_cons, ih]
set_option maxHeartbeats 4000000 in
theorem pass_fn {f : FuncId} {p : UInt8 → Bool} (hp : PredF f p) (s : List UInt8) (pos : Nat) (out : List TokS) (bad : Bool) (frm : Nat) (hq : pos ≤ s.length) (hl : s.length ≤ 100000) : Fn Try.prog 81 [.ptr 0 0, .fn (.func f) [] []] (lxs s pos out bad frm) (bytes ((s.drop pos).takeWhile p)) (lxs s (pos + spn p s pos) out bad frm) := by
  have hsl := spn_le p s pos hq
  refine en Try.func81 (hfr := by (simp only [Try.ntmps81, go_sem, Nat.reduceSub, Nat.reduceAdd]; rfl)) ?_
  repeat' (first | exact absurd hb Bool.false_ne_true | exact absurd hb.symm Bool.false_ne_true | refine W.seq ?_ | refine W.block ?_ | (refine rgx [2] [] ?_; intro K hK) | (refine drx [2] [] ?_; intro K hK) | refine oq ?_ | refine sk ?_ | (refine nk hK ?_; clear hK K) | (refine nd hK ?_; clear hK K) | refine sp ?_ | refine ex ?_ | (refine gs (fun hb => ?_) (fun hb => ?_) <;> replace hb := nb hb <;> try exact noB hb) | (refine cd (fun hb => ?_) (fun hb => ?_) <;> replace hb := nb hb <;> try exact noB hb) | (with_reducible refine Exists.intro _ (And.intro rfl ?_)) | ((with_reducible refine And.intro ?_ ?_); (focus exact sdA)) | fail)
  refine W.lp (ι := Nat) (fun i => (.ptr 0 0 :: .fn (.func f) [] [] :: ay 3 (i64 pos :: ay 24 []))) (fun i => lxs s (pos + i) out bad frm) (fun i => i ≤ spn p s pos) (fun i => spn p s pos - i) 0 (Nat.zero_le _) (Ent.to ?_ rfl) ?_
  · skip
    exact wkA
  intro i hi
  have c := more_fn hp s (pos + i) out bad frm
  by_cases hlt : i < spn p s pos
  · rw [spn_at p s pos i hlt] at c
    repeat' (first | exact absurd hb Bool.false_ne_true | exact absurd hb.symm Bool.false_ne_true | refine W.seq ?_ | refine W.block ?_ | (refine rg [] ?_; intro K hK) | (refine dr [] ?_; intro K hK) | refine cle [0, 1] 0 (c) ?_ | refine oq ?_ | refine sk ?_ | (refine nk hK ?_; clear hK K) | (refine nd hK ?_; clear hK K) | refine sp ?_ | refine ex ?_ | (refine gs (fun hb => ?_) (fun hb => ?_) <;> replace hb := nb hb <;> try exact noB hb) | (refine cd (fun hb => ?_) (fun hb => ?_) <;> replace hb := nb hb <;> try exact noB hb) | (with_reducible refine Exists.intro _ (And.intro rfl ?_)) | ((with_reducible refine And.intro ?_ ?_); (focus exact sdA)) | fail)
    refine nx (i + 1) (by omega) (by omega) (sb [0, 1] _ _ (hf := ?_))
    exact wkA
  · have hie : i = spn p s pos := by omega
    subst hie
    rw [spn_end p s pos] at c
    repeat' (first | exact absurd hb Bool.false_ne_true | exact absurd hb.symm Bool.false_ne_true | refine W.seq ?_ | refine W.block ?_ | (refine rg [] ?_; intro K hK) | (refine dr [] ?_; intro K hK) | refine cle [0, 1] 0 (c) ?_ | refine oq ?_ | refine sk ?_ | (refine nk hK ?_; clear hK K) | (refine nd hK ?_; clear hK K) | refine sp ?_ | refine ex ?_ | (refine gs (fun hb => ?_) (fun hb => ?_) <;> replace hb := nb hb <;> try exact noB hb) | (refine cd (fun hb => ?_) (fun hb => ?_) <;> replace hb := nb hb <;> try exact noB hb) | (with_reducible refine Exists.intro _ (And.intro rfl ?_)) | ((with_reducible refine And.intro ?_ ?_); (focus exact sdA)) | fail)
    rw [take_tw]
    all_goals (refine rt ?_; refine fin ?_; exact wqA)
theorem fail_fn (s : List UInt8) (pos : Nat) (out : List TokS) (bad : Bool) (frm q : Nat) : Fn Try.prog 89 [.ptr 0 0, i64 q] (lxs s pos out bad frm) (.d .nilf) (lxs s q out true frm) := by
  refine en Try.func89 (hfr := by (simp only [Try.ntmps89, go_sem, Nat.reduceSub, Nat.reduceAdd]; rfl)) ?_
  repeat' (first | exact absurd hb Bool.false_ne_true | exact absurd hb.symm Bool.false_ne_true | refine W.seq ?_ | refine W.block ?_ | (refine rg [] ?_; intro K hK) | (refine dr [] ?_; intro K hK) | refine oq ?_ | refine sk ?_ | (refine nk hK ?_; clear hK K) | (refine nd hK ?_; clear hK K) | refine sp ?_ | refine ex ?_ | (refine gs (fun hb => ?_) (fun hb => ?_) <;> replace hb := nb hb <;> try exact noB hb) | (refine cd (fun hb => ?_) (fun hb => ?_) <;> replace hb := nb hb <;> try exact noB hb) | (with_reducible refine Exists.intro _ (And.intro rfl ?_)) | ((with_reducible refine And.intro ?_ ?_); (focus exact sdA)) | fail)
  all_goals (refine rt ?_; refine fin ?_; exact wqA)
set_option maxHeartbeats 4000000 in
theorem add_fn (s : List UInt8) (pos : Nat) (out : List TokS) (bad : Bool) (frm : Nat) (kind : Int) (n : Nat) (text : List UInt8) (ho : out.length ≤ 100000) (ht : text.length ≤ 100000) : Fn Try.prog 119 [.ptr 0 0, i64 kind, i64 n, bytes text] (lxs s pos out bad frm) (.fn (.func 51) [] []) (lxs s pos (out ++ [⟨kind, frm, n, text⟩]) bad frm) := by
  have e : out.map tokD ++ [D.agg [.int .i64 kind, .int .i64 (frm : Int), .int .i64 (n : Int), .sl 1 (text.map u8)]] = (out ++ [TokS.mk kind frm n text]).map tokD := by rw [List.map_append]; rfl
  refine en Try.func119 (hfr := by (simp only [Try.ntmps119, go_sem, Nat.reduceSub, Nat.reduceAdd]; rfl)) ?_
  repeat' (first | exact absurd hb Bool.false_ne_true | exact absurd hb.symm Bool.false_ne_true | refine W.seq ?_ | refine W.block ?_ | (refine rg [] ?_; intro K hK) | (refine dr [] ?_; intro K hK) | refine oq ?_ | refine sk ?_ | (refine nk hK ?_; clear hK K) | (refine nd hK ?_; clear hK K) | refine sp ?_ | refine ex ?_ | (refine gs (fun hb => ?_) (fun hb => ?_) <;> replace hb := nb hb <;> try exact noB hb) | (refine cd (fun hb => ?_) (fun hb => ?_) <;> replace hb := nb hb <;> try exact noB hb) | (with_reducible refine Exists.intro _ (And.intro rfl ?_)) | ((with_reducible refine And.intro ?_ ?_); (focus exact sdA)) | fail)
  rw [e]
  refine rt ?_
  refine fin ?_ (ht := by simp only [lxs, List.length_append, List.length_cons, List.length_nil, Nat.zero_add, Nat.add_zero]; rfl)
  exact wqA
end Go.Proofs.Ytgebfcdcpmmgnaa.Vs
