/- rows of texts: library functions; reading: what both readers do, as one function. -/
import Derived.Test.YtpmbeldmclcjlaaVsX
import Derived.Test.YtpmbeldmclcjlaaVpB
import Derived.Test.YtpmbeldmclcjlaaVdA
set_option linter.unusedVariables false
set_option linter.unusedSimpArgs false
namespace Go.Proofs.Ytpmbeldmclcjlaa.Vs
open Go.RowKit
set_option maxRecDepth 100000
abbrev dtext (b : List UInt8) : D := .sl 1 (b.map u8)
abbrev texts (l : List (List UInt8)) : V := .d (.sl 1 (l.map dtext))
@[go_sem] theorem gd_text (l : List (List UInt8)) (n : Nat) : (l.map dtext).getD n (.sl 1 []) = dtext (l.getD n []) := gd_map dtext l n []
theorem gdS {α : Type} {l : List α} {i : Nat} (h : i < l.length) (d : α) : l[i]? = some (l.getD i d) := by rw [List.getD_eq_getElem?_getD, List.getElem?_eq_getElem h]; rfl
theorem allT {α : Type} {p : α → Bool} {l : List α} {i : Nat} {x : α} (h : (l.take i).all p = true) (hx : l[i]? = some x) (hp : p x = true) : (l.take (i + 1)).all p = true := by
  rw [List.take_add_one, hx]; simp [hp] at h ⊢; exact h
theorem allF {α : Type} {p : α → Bool} {l : List α} {i : Nat} {x : α} (hx : l[i]? = some x) (hp : p x = false) : l.all p = false := by
  rw [List.all_eq_false]
  exact ⟨x, List.mem_of_getElem? hx, by simp [hp]⟩
theorem bequal_fn (a b : List UInt8) : Fn Try.prog 138 [bytes a, bytes b] [] (bool (decide (a = b))) [] := by
  refine en Try.func138 (hfr := by (simp only [Try.ntmps138, go_sem, Nat.reduceSub, Nat.reduceAdd]; rfl)) ?_
  repeat' (first | exact absurd hb Bool.false_ne_true | exact absurd hb.symm Bool.false_ne_true | refine W.seq ?_ | refine W.block ?_ | (refine rg [] ?_; intro K hK) | (refine dr [] ?_; intro K hK) | refine oq ?_ | refine sk ?_ | (refine nk hK ?_; clear hK K) | (refine nd hK ?_; clear hK K) | refine sp ?_ | refine ex ?_ | (refine gs (fun hb => ?_) (fun hb => ?_) <;> replace hb := nb hb <;> try exact noB hb) | (refine cd (fun hb => ?_) (fun hb => ?_) <;> replace hb := nb hb <;> try exact noB hb) | (with_reducible refine Exists.intro _ (And.intro rfl ?_)) | ((with_reducible refine And.intro ?_ ?_); (focus exact sdA)) | fail)
  refine rt ?_
  refine fin ?_
  exact .bool (by rw [Bool.eq_iff_iff]; simp)
theorem equalFunc_fn (xs ys : List (List UInt8)) : Fn Try.prog 139 [texts xs, texts ys, .fn (.func 138) [] []] [] (bool (decide (xs = ys))) [] := by
  refine en Try.func139 (hfr := by (simp only [Try.ntmps139, go_sem, Nat.reduceSub, Nat.reduceAdd]; rfl)) ?_
  refine W.le (s := 0) rfl fun hm => ?_
  rw [List.length_map] at hm
  by_cases hl : xs.length = ys.length
  · skip
    repeat' (first | exact absurd hb Bool.false_ne_true | exact absurd hb.symm Bool.false_ne_true | refine W.seq ?_ | refine W.block ?_ | (refine rgx [4] [] ?_; intro K hK) | (refine drx [4] [] ?_; intro K hK) | refine oq ?_ | refine sk ?_ | (refine nk hK ?_; clear hK K) | (refine nd hK ?_; clear hK K) | refine sp ?_ | refine ex ?_ | (refine gs (fun hb => ?_) (fun hb => ?_) <;> replace hb := nb hb <;> try exact noB hb) | (refine cd (fun hb => ?_) (fun hb => ?_) <;> replace hb := nb hb <;> try exact noB hb) | (with_reducible refine Exists.intro _ (And.intro rfl ?_)) | ((with_reducible refine And.intro ?_ ?_); (focus exact sdA)) | fail)
    refine W.lp (ι := Nat) (fun i => (ay 1 (texts ys :: .fn (.func 138) [] [] :: ay 12 (texts xs :: i64 xs.length :: i64 i :: ay 14 [])))) (fun _ => []) (fun i => i ≤ xs.length ∧ xs.take i = ys.take i) (fun i => xs.length - i) 0 ⟨Nat.zero_le _, rfl⟩ (Ent.to ?_ rfl) ?_
    · skip
      exact wkA
    · rintro i ⟨hi, ht⟩
      have c := bequal_fn (xs.getD i []) (ys.getD i [])
      have hg : ∀ (zs : List (List UInt8)), i < zs.length → zs[i]? = some (zs.getD i []) := fun zs h => by rw [List.getD_eq_getElem?_getD, List.getElem?_eq_getElem h]; rfl
      repeat' (first | exact absurd hb Bool.false_ne_true | exact absurd hb.symm Bool.false_ne_true | refine W.seq ?_ | refine W.block ?_ | (refine rg [] ?_; intro K hK) | (refine dr [] ?_; intro K hK) | refine cl (c) ?_ | refine oq ?_ | refine sk ?_ | (refine nk hK ?_; clear hK K) | (refine nd hK ?_; clear hK K) | refine sp ?_ | refine ex ?_ | (refine gs (fun hb => ?_) (fun hb => ?_) <;> replace hb := nb hb <;> try exact noB hb) | (refine cd (fun hb => ?_) (fun hb => ?_) <;> replace hb := nb hb <;> try exact noB hb) | (with_reducible refine Exists.intro _ (And.intro rfl ?_)) | ((with_reducible refine And.intro ?_ ?_); (focus exact sdA)) | fail)
      · by_cases he : xs.getD i [] = ys.getD i []
        · exact absurd he hb
        · rw [decide_eq_false (p := xs = ys) (fun h => he (by rw [h]))]
          all_goals (refine rt ?_; refine fin ?_; exact wqA)
      · refine nx (i + 1) ⟨by omega, ?_⟩ (by omega) (Ent.to ?_ rfl)
        · rw [List.take_add_one, List.take_add_one, ht, hg xs (by omega), hg ys (by omega), hb]
        · skip
          exact wkA
      · rw [List.take_of_length_le (by omega), List.take_of_length_le (by omega)] at ht
        rw [decide_eq_true ht]
        all_goals (refine rt ?_; refine fin ?_; exact wqA)
  · rw [decide_eq_false (p := xs = ys) (fun h => hl (by rw [h]))]
    repeat' (first | exact absurd hb Bool.false_ne_true | exact absurd hb.symm Bool.false_ne_true | refine W.seq ?_ | refine W.block ?_ | (refine rg [] ?_; intro K hK) | (refine dr [] ?_; intro K hK) | refine oq ?_ | refine sk ?_ | (refine nk hK ?_; clear hK K) | (refine nd hK ?_; clear hK K) | refine sp ?_ | refine ex ?_ | (refine gs (fun hb => ?_) (fun hb => ?_) <;> replace hb := nb hb <;> try exact noB hb) | (refine cd (fun hb => ?_) (fun hb => ?_) <;> replace hb := nb hb <;> try exact noB hb) | (with_reducible refine Exists.intro _ (And.intro rfl ?_)) | ((with_reducible refine And.intro ?_ ?_); (focus exact sdA)) | fail)
    all_goals (refine rt ?_; refine fin ?_; exact wqA)
theorem clone_fn (b : List UInt8) (hl : b.length ≤ 140737488355328) : Fn Try.prog 89 [bytes b] [] (bytes b) [] := by
  refine Fn.split1 (fun h => ?_) ?_
  · have hb : b = [] := by simpa using h
    subst hb
    refine en Try.func89 (hfr := by (simp only [Try.ntmps89, go_sem, Nat.reduceSub, Nat.reduceAdd]; rfl)) ?_
    repeat' (first | exact absurd hb Bool.false_ne_true | exact absurd hb.symm Bool.false_ne_true | refine W.seq ?_ | refine W.block ?_ | (refine rg [] ?_; intro K hK) | (refine dr [] ?_; intro K hK) | refine oq ?_ | refine sk ?_ | (refine nk hK ?_; clear hK K) | (refine nd hK ?_; clear hK K) | refine sp ?_ | refine ex ?_ | (refine gs (fun hb => ?_) (fun hb => ?_) <;> replace hb := nb hb <;> try exact noB hb) | (refine cd (fun hb => ?_) (fun hb => ?_) <;> replace hb := nb hb <;> try exact noB hb) | (with_reducible refine Exists.intro _ (And.intro rfl ?_)) | ((with_reducible refine And.intro ?_ ?_); (focus exact sdA)) | fail)
    all_goals (refine rt ?_; refine fin ?_; exact wqA)
  · skip
    refine en Try.func89 (hfr := by (simp only [Try.ntmps89, go_sem, Nat.reduceSub, Nat.reduceAdd]; rfl)) ?_
    repeat' (first | exact absurd hb Bool.false_ne_true | exact absurd hb.symm Bool.false_ne_true | refine W.seq ?_ | refine W.block ?_ | (refine rg [] ?_; intro K hK) | (refine dr [] ?_; intro K hK) | refine oq ?_ | refine sk ?_ | (refine nk hK ?_; clear hK K) | (refine nd hK ?_; clear hK K) | refine sp ?_ | refine ex ?_ | (refine gs (fun hb => ?_) (fun hb => ?_) <;> replace hb := nb hb <;> try exact noB hb) | (refine cd (fun hb => ?_) (fun hb => ?_) <;> replace hb := nb hb <;> try exact noB hb) | (with_reducible refine Exists.intro _ (And.intro rfl ?_)) | ((with_reducible refine And.intro ?_ ?_); (focus exact sdA)) | fail)
    all_goals (refine rt ?_; refine fin ?_; exact wqA)
theorem flat8 (b : List UInt8) : ((b.map u8).map dcells).flatten = (b.map u8).map V.d := by
  induction b with
  | nil => rfl
  | cons x b ih => simp only [List.map_cons, List.flatten_cons, ih]; rfl
theorem text_fn (b : List UInt8) (hl : b.length ≤ 65535) : Fn Try.prog 79 [bytes b] [] (.tup [bytes (numB b.length 2 ++ b), i64 0]) [] := by
  have c := number_hd b.length 2 (by decide) (by decide) (by omega)
  refine en Try.func79 (hfr := by (simp only [Try.ntmps79, go_sem, Nat.reduceSub, Nat.reduceAdd]; rfl)) ?_
  refine W.ent (Ent.more 1) ?_
  repeat' (first | exact absurd hb Bool.false_ne_true | exact absurd hb.symm Bool.false_ne_true | refine W.seq ?_ | refine W.block ?_ | (refine rg [] ?_; intro K hK) | (refine dr [] ?_; intro K hK) | refine cle [0] 1 (c) ?_ | refine oq ?_ | refine sk ?_ | (refine nk hK ?_; clear hK K) | (refine nd hK ?_; clear hK K) | refine sp ?_ | refine ex ?_ | (refine gs (fun hb => ?_) (fun hb => ?_) <;> replace hb := nb hb <;> try exact noB hb) | (refine cd (fun hb => ?_) (fun hb => ?_) <;> replace hb := nb hb <;> try exact noB hb) | (with_reducible refine Exists.intro _ (And.intro rfl ?_)) | ((with_reducible refine And.intro ?_ ?_); (focus exact sdA)) | fail)
  refine W.ent (Ent.freezeH (i := 0) (q := 1) (xs := (numB b.length 2 ++ b).map u8) (fr' := (ay 2 (bytes (numB b.length 2 ++ b) :: i64 0 :: ay 9 []))) rfl (by decide) ?_ (by simp) ?_) ?_
  · rw [flat8, ← List.map_append, ← List.map_append]
    exact elems_map _
  · skip
    repeat' (first | exact FzHL.nil | refine FzHL.cons ?_ ?_ | exact FzH.wk Wk.any | refine FzH.hd ?_ | exact FzH.wk Wk.rfl | (simp; done) | omega | (simp; omega))
  · skip
    all_goals (refine rt ?_; refine fin ?_; exact wqA)
/-- What is left, and whether it is bad. -/
abbrev RS := List UInt8 × Bool
def rdN (k : Nat) (s : RS) : Nat := if s.2 = true ∨ s.1.length < k then 0 else numOf (s.1.take k)
def rdNs (k : Nat) (s : RS) : RS := if s.2 = true ∨ s.1.length < k then (s.1, true) else (s.1.drop k, false)
def rdT (s : RS) : List UInt8 := if (rdNs 2 s).2 = true ∨ (rdNs 2 s).1.length < rdN 2 s then [] else (rdNs 2 s).1.take (rdN 2 s)
def rdTs (s : RS) : RS := if (rdNs 2 s).2 = true ∨ (rdNs 2 s).1.length < rdN 2 s then ((rdNs 2 s).1, true) else ((rdNs 2 s).1.drop (rdN 2 s), false)
theorem rdN_lt (k : Nat) (s : RS) : rdN k s < 256 ^ k := by
  unfold rdN
  split
  · exact Nat.pow_pos (by decide)
  · exact numOf_lt s.1 k
abbrev rdS (s : RS) : Ob := rdr s.1 s.2
theorem rnum_fn (s : RS) (k : Nat) (h1 : 1 ≤ k) (h8 : k ≤ 8) : Fn Try.prog 87 [.ptr 0 0, i64 k] [rdS s] (u64 (rdN k s)) [rdS (rdNs k s)] := by
  obtain ⟨b, bad⟩ := s
  unfold rdN rdNs
  by_cases h : bad = true ∨ b.length < k
  · rw [if_pos h, if_pos h]
    exact rnumber_bad b bad k h1 h8 h
  · rw [if_neg h, if_neg h]
    obtain rfl : bad = false := by cases bad <;> simp_all
    exact rnumber_ok b k h1 h8 (by simp at h; omega)
theorem rtext_fn (s : RS) : Fn Try.prog 88 [.ptr 0 0] [rdS s] (bytes (rdT s)) [rdS (rdTs s)] := by
  have c1 := rnum_fn s 2 (by decide) (by decide)
  have hlt := rdN_lt 2 s
  have c2 := take_fn (rdNs 2 s).1 (rdNs 2 s).2 (rdN 2 s)
  by_cases h : (rdNs 2 s).2 = true ∨ (rdNs 2 s).1.length < rdN 2 s
  · rw [if_pos h, if_pos h] at c2
    unfold rdT rdTs
    rw [if_pos h, if_pos h]
    generalize rdN 2 s = n at *
    generalize rdNs 2 s = s2 at *
    refine en Try.func88 (hfr := by (simp only [Try.ntmps88, go_sem, Nat.reduceSub, Nat.reduceAdd]; rfl)) ?_
    repeat' (first | exact absurd hb Bool.false_ne_true | exact absurd hb.symm Bool.false_ne_true | refine W.seq ?_ | refine W.block ?_ | (refine rg [] ?_; intro K hK) | (refine dr [] ?_; intro K hK) | refine cle [0] 0 (c1) ?_ | refine cle [0] 0 (c2) ?_ | refine oq ?_ | refine sk ?_ | (refine nk hK ?_; clear hK K) | (refine nd hK ?_; clear hK K) | refine sp ?_ | refine ex ?_ | (refine gs (fun hb => ?_) (fun hb => ?_) <;> replace hb := nb hb <;> try exact noB hb) | (refine cd (fun hb => ?_) (fun hb => ?_) <;> replace hb := nb hb <;> try exact noB hb) | (with_reducible refine Exists.intro _ (And.intro rfl ?_)) | ((with_reducible refine And.intro ?_ ?_); (focus exact sdA)) | fail)
    all_goals (refine rt ?_; refine fin ?_; exact wqA)
  · rw [if_neg h, if_neg h] at c2
    unfold rdT rdTs
    rw [if_neg h, if_neg h]
    generalize rdN 2 s = n at *
    generalize rdNs 2 s = s2 at *
    refine en Try.func88 (hfr := by (simp only [Try.ntmps88, go_sem, Nat.reduceSub, Nat.reduceAdd]; rfl)) ?_
    repeat' (first | exact absurd hb Bool.false_ne_true | exact absurd hb.symm Bool.false_ne_true | refine W.seq ?_ | refine W.block ?_ | (refine rg [] ?_; intro K hK) | (refine dr [] ?_; intro K hK) | refine cle [0] 0 (c1) ?_ | refine cle [0] 0 (c2) ?_ | refine oq ?_ | refine sk ?_ | (refine nk hK ?_; clear hK K) | (refine nd hK ?_; clear hK K) | refine sp ?_ | refine ex ?_ | (refine gs (fun hb => ?_) (fun hb => ?_) <;> replace hb := nb hb <;> try exact noB hb) | (refine cd (fun hb => ?_) (fun hb => ?_) <;> replace hb := nb hb <;> try exact noB hb) | (with_reducible refine Exists.intro _ (And.intro rfl ?_)) | ((with_reducible refine And.intro ?_ ?_); (focus exact sdA)) | fail)
    all_goals (refine rt ?_; refine fin ?_; exact wqA)
def rdE (s : RS) : Bool := !s.2 && decide (s.1 = [])
theorem rend_fn (s : RS) : Fn Try.prog 90 [.ptr 0 0] [rdS s] (bool (rdE s)) [rdS s] := by
  obtain ⟨b, bad⟩ := s
  have h1 : rdE (b, bad) = (!bad && decide (b = [])) := rfl
  rw [h1]
  refine en Try.func90 (hfr := by (simp only [Try.ntmps90, go_sem, Nat.reduceSub, Nat.reduceAdd]; rfl)) ?_
  repeat' (first | exact absurd hb Bool.false_ne_true | exact absurd hb.symm Bool.false_ne_true | refine W.seq ?_ | refine W.block ?_ | (refine rg [] ?_; intro K hK) | (refine dr [] ?_; intro K hK) | refine oq ?_ | refine sk ?_ | (refine nk hK ?_; clear hK K) | (refine nd hK ?_; clear hK K) | refine sp ?_ | refine ex ?_ | (refine gs (fun hb => ?_) (fun hb => ?_) <;> replace hb := nb hb <;> try exact noB hb) | (refine cd (fun hb => ?_) (fun hb => ?_) <;> replace hb := nb hb <;> try exact noB hb) | (with_reducible refine Exists.intro _ (And.intro rfl ?_)) | ((with_reducible refine And.intro ?_ ?_); (focus exact sdA)) | fail)
  all_goals (refine rt ?_; refine fin ?_; refine Wk.bool ?_)
  · subst hb
    rw [Bool.eq_iff_iff]
    simp
  · simp [hb]
abbrev xrd (s : RS) : Ob := .cells 160 [bytes s.1, bool s.2]
theorem xrnum_fn (s : RS) (k : Nat) (h1 : 1 ≤ k) (h8 : k ≤ 8) : Fn Try.prog 93 [.ptr 0 0, i64 k] [xrd s] (u64 (rdN k s)) [xrd (rdNs k s)] := by
  obtain ⟨b, bad⟩ := s
  unfold rdN rdNs
  by_cases h : bad = true ∨ b.length < k
  · rw [if_pos h, if_pos h]
    exact xrnumber_no b bad k (by rcases h with h | h; exact .inl h; exact .inr (.inr (.inr (by omega))))
  · rw [if_neg h, if_neg h]
    obtain rfl : bad = false := by cases bad <;> simp_all
    exact xrnumber_ok b k h1 h8 (by simp at h; omega)
theorem xrtext_fn (s : RS) : Fn Try.prog 94 [.ptr 0 0] [xrd s] (bytes (rdT s)) [xrd (rdTs s)] := by
  have c1 := xrnum_fn s 2 (by decide) (by decide)
  have hlt := rdN_lt 2 s
  unfold rdT rdTs
  generalize rdN 2 s = n at *
  generalize rdNs 2 s = s2 at *
  obtain ⟨b2, bad2⟩ := s2
  by_cases h : bad2 = true ∨ b2.length < n
  · rw [if_pos h, if_pos h]
    refine en Try.func94 (hfr := by (simp only [Try.ntmps94, go_sem, Nat.reduceSub, Nat.reduceAdd]; rfl)) ?_
    repeat' (first | exact absurd hb Bool.false_ne_true | exact absurd hb.symm Bool.false_ne_true | refine W.seq ?_ | refine W.block ?_ | (refine rg [] ?_; intro K hK) | (refine dr [] ?_; intro K hK) | refine cle [0] 0 (c1) ?_ | refine oq ?_ | refine sk ?_ | (refine nk hK ?_; clear hK K) | (refine nd hK ?_; clear hK K) | refine sp ?_ | refine ex ?_ | (refine gs (fun hb => ?_) (fun hb => ?_) <;> replace hb := nb hb <;> try exact noB hb) | (refine cd (fun hb => ?_) (fun hb => ?_) <;> replace hb := nb hb <;> try exact noB hb) | (with_reducible refine Exists.intro _ (And.intro rfl ?_)) | ((with_reducible refine And.intro ?_ ?_); (focus exact sdA)) | fail)
    all_goals first | (exfalso; simp_all; done) | (exfalso; simp_all; omega) | (refine rt ?_; refine fin ?_; exact .nil (by decide) rfl)
  · rw [if_neg h, if_neg h]
    obtain rfl : bad2 = false := by cases bad2 <;> simp_all
    refine en Try.func94 (hfr := by (simp only [Try.ntmps94, go_sem, Nat.reduceSub, Nat.reduceAdd]; rfl)) ?_
    repeat' (first | exact absurd hb Bool.false_ne_true | exact absurd hb.symm Bool.false_ne_true | refine W.seq ?_ | refine W.block ?_ | (refine rg [] ?_; intro K hK) | (refine dr [] ?_; intro K hK) | refine cle [0] 0 (c1) ?_ | refine oq ?_ | refine sk ?_ | (refine nk hK ?_; clear hK K) | (refine nd hK ?_; clear hK K) | refine sp ?_ | refine ex ?_ | (refine gs (fun hb => ?_) (fun hb => ?_) <;> replace hb := nb hb <;> try exact noB hb) | (refine cd (fun hb => ?_) (fun hb => ?_) <;> replace hb := nb hb <;> try exact noB hb) | (with_reducible refine Exists.intro _ (And.intro rfl ?_)) | ((with_reducible refine And.intro ?_ ?_); (focus exact sdA)) | fail)
    all_goals first | (exfalso; simp_all; done) | (exfalso; simp_all; omega) | (refine rt ?_; refine fin ?_; exact .own rfl rfl)
theorem xrend_fn (s : RS) : Fn Try.prog 95 [.ptr 0 0] [xrd s] (bool (rdE s)) [xrd s] := by
  obtain ⟨b, bad⟩ := s
  have h1 : rdE (b, bad) = (!bad && decide (b = [])) := rfl
  rw [h1]
  refine en Try.func95 (hfr := by (simp only [Try.ntmps95, go_sem, Nat.reduceSub, Nat.reduceAdd]; rfl)) ?_
  repeat' (first | exact absurd hb Bool.false_ne_true | exact absurd hb.symm Bool.false_ne_true | refine W.seq ?_ | refine W.block ?_ | (refine rg [] ?_; intro K hK) | (refine dr [] ?_; intro K hK) | refine oq ?_ | refine sk ?_ | (refine nk hK ?_; clear hK K) | (refine nd hK ?_; clear hK K) | refine sp ?_ | refine ex ?_ | (refine gs (fun hb => ?_) (fun hb => ?_) <;> replace hb := nb hb <;> try exact noB hb) | (refine cd (fun hb => ?_) (fun hb => ?_) <;> replace hb := nb hb <;> try exact noB hb) | (with_reducible refine Exists.intro _ (And.intro rfl ?_)) | ((with_reducible refine And.intro ?_ ?_); (focus exact sdA)) | fail)
  all_goals (refine rt ?_; refine fin ?_; refine Wk.bool ?_)
  · subst hb
    rw [Bool.eq_iff_iff]
    simp
  · simp [hb]
end Go.Proofs.Ytpmbeldmclcjlaa.Vs
