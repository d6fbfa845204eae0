/- folding: books, and the library's functions over texts; folding: the state at first, and whether one is right; folding: what a record does to a run; folding: whether a state is right. -/
import Derived.Test.YtpmbeldmclcjlaaVrC
import Derived.Test.YtpmbeldmclcjlaaVrM
set_option linter.unusedVariables false
set_option linter.unusedSimpArgs false
namespace Go.Proofs.Ytpmbeldmclcjlaa.Vs
open Go.RowKit
set_option maxRecDepth 100000
structure ArmS where
  pat : List UInt8
  vr : Int
  to : Int
structure StepS where
  name : List UInt8
  tag : Int
  send : List UInt8
  arms : List ArmS
  time : Int
  tr : Int
  els : Int
structure BookS where
  steps : List StepS
  vars : List (List UInt8)
  most : Int
abbrev armD (a : ArmS) : D := .agg [dtext a.pat, .int .i64 a.vr, .int .i64 a.to]
abbrev armsD (l : List ArmS) : D := .sl 3 (l.map armD)
abbrev stepD (s : StepS) : D := .agg [.str s.name, .int .i64 s.tag, dtext s.send, armsD s.arms, .int .i64 s.time, .int .i64 s.tr, .int .i64 s.els]
abbrev stepsD (l : List StepS) : D := .sl 7 (l.map stepD)
abbrev namesD (l : List (List UInt8)) : D := .sl 1 (l.map D.str)
abbrev BookS.cells (b : BookS) : List V := [.d (stepsD b.steps), .d (namesD b.vars), i64 b.most]
abbrev BookS.v (b : BookS) : V := .agg b.cells
def ArmS.zero : ArmS := ⟨[], 0, 0⟩
def StepS.zero : StepS := ⟨[], 0, [], [], 0, 0, 0⟩
@[go_sem] theorem gd_arm (l : List ArmS) (n : Nat) : (l.map armD).getD n (.agg [.sl 1 [], .int .i64 0, .int .i64 0]) = armD (l.getD n ArmS.zero) := gd_map armD l n ArmS.zero
@[go_sem] theorem gd_step (l : List StepS) (n : Nat) : (l.map stepD).getD n (.agg [.str [], .int .i64 0, .sl 1 [], .sl 3 [], .int .i64 0, .int .i64 0, .int .i64 0]) = stepD (l.getD n StepS.zero) := gd_map stepD l n StepS.zero
abbrev StepS.cells (s : StepS) : List V := [.d (.str s.name), i64 s.tag, bytes s.send, .d (armsD s.arms), i64 s.time, i64 s.tr, i64 s.els]
/-- A step by its number. -/
def BookS.at (b : BookS) (n : Int) : StepS := b.steps.getD n.toNat StepS.zero
/-- Where the first such is. -/
def firstI {α : Type} (p : α → Bool) (l : List α) : Int := if l.findIdx p < l.length then (l.findIdx p : Int) else -1
theorem firstI_any {α : Type} (p : α → Bool) (l : List α) : decide (firstI p l ≥ 0) = l.any p := by
  rw [Bool.eq_iff_iff, decide_eq_true_eq, List.any_eq_true, ← List.findIdx_lt_length]
  unfold firstI
  split <;> omega
theorem findIdx_step {α : Type} {p : α → Bool} {l : List α} {i : Nat} {x : α} (hx : l[i]? = some x) (hi : i ≤ l.findIdx p) (hp : p x = false) : i + 1 ≤ l.findIdx p := by
  rcases Nat.lt_or_ge i (l.findIdx p) with h | h
  · exact h
  · have hi' : i = l.findIdx p := by omega
    obtain ⟨hlt, e⟩ := List.getElem?_eq_some_iff.1 hx
    have := List.findIdx_getElem (xs := l) (p := p) (w := by omega)
    simp only [← hi', e, hp] at this
    cases this
theorem findIdx_here {α : Type} {p : α → Bool} {l : List α} {i : Nat} {x : α} (hx : l[i]? = some x) (hi : i ≤ l.findIdx p) (hp : p x = true) : firstI p l = i := by
  obtain ⟨hlt, e⟩ := List.getElem?_eq_some_iff.1 hx
  have h1 : i = l.findIdx p := by
    rcases Nat.lt_or_ge i (l.findIdx p) with h | h
    · have := List.not_of_lt_findIdx h
      rw [e, hp] at this
      cases this
    · omega
  unfold firstI
  rw [← h1, if_pos hlt]
theorem indexT_fn (g : FuncId) (p : List UInt8 → Bool) (hp : ∀ x, Fn Try.prog g [bytes x] [] (bool (p x)) []) (l : List (List UInt8)) : Fn Try.prog 140 [texts l, .fn (.func g) [] []] [] (i64 (firstI p l)) [] := by
  refine en Try.func140 (hfr := by (simp only [Try.ntmps140, go_sem, Nat.reduceSub, Nat.reduceAdd]; rfl)) ?_
  refine W.le (s := 0) rfl fun hm => ?_
  rw [List.length_map] at hm
  repeat' (first | exact absurd hb Bool.false_ne_true | exact absurd hb.symm Bool.false_ne_true | refine W.seq ?_ | refine W.block ?_ | (refine rgx [2] [] ?_; intro K hK) | (refine drx [2] [] ?_; intro K hK) | refine oq ?_ | refine sk ?_ | (refine nk hK ?_; clear hK K) | (refine nd hK ?_; clear hK K) | refine sp ?_ | refine ex ?_ | (refine gs (fun hb => ?_) (fun hb => ?_) <;> replace hb := nb hb <;> try exact noB hb) | (refine cd (fun hb => ?_) (fun hb => ?_) <;> replace hb := nb hb <;> try exact noB hb) | (with_reducible refine Exists.intro _ (And.intro rfl ?_)) | ((with_reducible refine And.intro ?_ ?_); (focus exact sdA)) | fail)
  refine W.lp (ι := Nat) (fun i => (texts l :: .fn (.func g) [] [] :: ay 4 (texts l :: i64 l.length :: i64 i :: ay 10 []))) (fun _ => []) (fun i => i ≤ l.findIdx p) (fun i => l.length - i) 0 (Nat.zero_le _) (Ent.to ?_ rfl) ?_
  · skip
    exact wkA
  · intro i ha
    have c := hp (l.getD i [])
    have hle := List.findIdx_le_length (xs := l) (p := p)
    by_cases hlt : i < l.length
    · have hx := gdS hlt ([] : List UInt8)
      repeat' (first | exact absurd hb Bool.false_ne_true | exact absurd hb.symm Bool.false_ne_true | refine W.seq ?_ | refine W.block ?_ | (refine rg [] ?_; intro K hK) | (refine dr [] ?_; intro K hK) | refine cl (c) ?_ | refine oq ?_ | refine sk ?_ | (refine nk hK ?_; clear hK K) | (refine nd hK ?_; clear hK K) | refine sp ?_ | refine ex ?_ | (refine gs (fun hb => ?_) (fun hb => ?_) <;> replace hb := nb hb <;> try exact noB hb) | (refine cd (fun hb => ?_) (fun hb => ?_) <;> replace hb := nb hb <;> try exact noB hb) | (with_reducible refine Exists.intro _ (And.intro rfl ?_)) | ((with_reducible refine And.intro ?_ ?_); (focus exact sdA)) | fail)
      · rw [findIdx_here hx ha (by assumption)]
        all_goals (refine rt ?_; refine fin ?_; exact wqA)
      · refine nx (i + 1) (findIdx_step hx ha (by assumption)) (by omega) (Ent.to ?_ rfl)
        exact wkA
    · skip
      repeat' (first | exact absurd hb Bool.false_ne_true | exact absurd hb.symm Bool.false_ne_true | refine W.seq ?_ | refine W.block ?_ | (refine rg [] ?_; intro K hK) | (refine dr [] ?_; intro K hK) | refine oq ?_ | refine sk ?_ | (refine nk hK ?_; clear hK K) | (refine nd hK ?_; clear hK K) | refine sp ?_ | refine ex ?_ | (refine gs (fun hb => ?_) (fun hb => ?_) <;> replace hb := nb hb <;> try exact noB hb) | (refine cd (fun hb => ?_) (fun hb => ?_) <;> replace hb := nb hb <;> try exact noB hb) | (with_reducible refine Exists.intro _ (And.intro rfl ?_)) | ((with_reducible refine And.intro ?_ ?_); (focus exact sdA)) | fail)
      rw [show firstI p l = -1 by unfold firstI; rw [if_neg (by omega)]]
      all_goals (refine rt ?_; refine fin ?_; exact wqA)
theorem containsT_fn (g : FuncId) (p : List UInt8 → Bool) (hp : ∀ x, Fn Try.prog g [bytes x] [] (bool (p x)) []) (l : List (List UInt8)) : Fn Try.prog 82 [texts l, .fn (.func g) [] []] [] (bool (l.any p)) [] := by
  have c := indexT_fn g p hp l
  rw [← firstI_any]
  refine en Try.func82 (hfr := by (simp only [Try.ntmps82, go_sem, Nat.reduceSub, Nat.reduceAdd]; rfl)) ?_
  repeat' (first | exact absurd hb Bool.false_ne_true | exact absurd hb.symm Bool.false_ne_true | refine W.seq ?_ | refine W.block ?_ | (refine rg [] ?_; intro K hK) | (refine dr [] ?_; intro K hK) | refine cl (c) ?_ | refine oq ?_ | refine sk ?_ | (refine nk hK ?_; clear hK K) | (refine nd hK ?_; clear hK K) | refine sp ?_ | refine ex ?_ | (refine gs (fun hb => ?_) (fun hb => ?_) <;> replace hb := nb hb <;> try exact noB hb) | (refine cd (fun hb => ?_) (fun hb => ?_) <;> replace hb := nb hb <;> try exact noB hb) | (with_reducible refine Exists.intro _ (And.intro rfl ?_)) | ((with_reducible refine And.intro ?_ ?_); (focus exact sdA)) | fail)
  all_goals (refine rt ?_; refine fin ?_; exact wqA)
theorem cells_texts (l : List (List UInt8)) : (List.map dcells (List.map dtext l)).flatten = (l.map dtext).map V.d := by
  induction l with
  | nil => rfl
  | cons b l ih => simp only [List.map_cons, List.flatten_cons, ih]; rfl
/-- Texts in new memory. -/
theorem cloneT_fn (l : List (List UInt8)) (hl : l.length ≤ 1000000) : Fn Try.prog 132 [texts l] [] (.hd 0 1 l.length) [.grw 33 1 1 l.length ((l.map dtext).map .d)] := by
  refine Fn.split1 (fun h => ?_) ?_
  · obtain rfl : l = [] := List.map_eq_nil_iff.1 h
    refine en Try.func132 (hfr := by (simp only [Try.ntmps132, go_sem, Nat.reduceSub, Nat.reduceAdd]; rfl)) ?_
    refine W.ent (Ent.more 1) ?_
    repeat' (first | exact absurd hb Bool.false_ne_true | exact absurd hb.symm Bool.false_ne_true | refine W.seq ?_ | refine W.block ?_ | (refine rg [] ?_; intro K hK) | (refine dr [] ?_; intro K hK) | refine oq ?_ | refine sk ?_ | (refine nk hK ?_; clear hK K) | (refine nd hK ?_; clear hK K) | refine sp ?_ | refine ex ?_ | (refine gs (fun hb => ?_) (fun hb => ?_) <;> replace hb := nb hb <;> try exact noB hb) | (refine cd (fun hb => ?_) (fun hb => ?_) <;> replace hb := nb hb <;> try exact noB hb) | (with_reducible refine Exists.intro _ (And.intro rfl ?_)) | ((with_reducible refine And.intro ?_ ?_); (focus exact sdA)) | fail)
    refine W.ent (Ent.nilHdK (i := 0) (kk := 1) (fr' := (ay 2 (.hd 0 1 0 :: ay 5 []))) 33 1 rfl ?_) ?_
    · repeat' (first | exact NhKL.nil | refine NhKL.hd ?_ | refine NhKL.cons ?_ ?_ | exact Wk.any | exact Wk.rfl)
    · skip
      all_goals (refine rt ?_; refine fin ?_; exact wqA)
  · skip
    refine en Try.func132 (hfr := by (simp only [Try.ntmps132, go_sem, Nat.reduceSub, Nat.reduceAdd]; rfl)) ?_
    repeat' (first | exact absurd hb Bool.false_ne_true | exact absurd hb.symm Bool.false_ne_true | refine W.seq ?_ | refine W.block ?_ | (refine rg [5, 7] ?_; intro K hK) | (refine dr [5, 7] ?_; intro K hK) | refine oq ?_ | refine sk ?_ | (refine nk hK ?_; clear hK K) | (refine nd hK ?_; clear hK K) | refine sp ?_ | refine ex ?_ | (refine gs (fun hb => ?_) (fun hb => ?_) <;> replace hb := nb hb <;> try exact noB hb) | (refine cd (fun hb => ?_) (fun hb => ?_) <;> replace hb := nb hb <;> try exact noB hb) | (with_reducible refine Exists.intro _ (And.intro rfl ?_)) | ((with_reducible refine And.intro ?_ ?_); (focus exact sdA)) | fail)
    rw [cells_texts]
    refine W.ent (sb [1] ((ay 2 (.hd 0 1 l.length :: ay 5 []))) [.grw 33 1 1 l.length ((l.map dtext).map .d)]) ?_
    all_goals (refine rt ?_; refine fin ?_; exact wqA)
/-- Is that the arm? -/
def armIs (to v : Int) (a : ArmS) : Bool := decide (a.to = to ∧ a.vr = v)
def isArm (r : RecS) : ArmS → Bool := armIs r.to r.vr
theorem isArm_fn (a : ArmS) (r : RecS) : Fn Try.prog 161 [.agg [bytes a.pat, i64 a.vr, i64 a.to], .ptr 0 0] [.cells 35 r.cells] (bool (isArm r a)) [.cells 35 r.cells] := by
  refine en Try.func161 (hfr := by (simp only [Try.ntmps161, go_sem, Nat.reduceSub, Nat.reduceAdd]; rfl)) ?_
  repeat' (first | exact absurd hb Bool.false_ne_true | exact absurd hb.symm Bool.false_ne_true | refine W.seq ?_ | refine W.block ?_ | (refine rg [] ?_; intro K hK) | (refine dr [] ?_; intro K hK) | refine oq ?_ | refine sk ?_ | (refine nk hK ?_; clear hK K) | (refine nd hK ?_; clear hK K) | refine sp ?_ | refine ex ?_ | (refine gs (fun hb => ?_) (fun hb => ?_) <;> replace hb := nb hb <;> try exact noB hb) | (refine cd (fun hb => ?_) (fun hb => ?_) <;> replace hb := nb hb <;> try exact noB hb) | (with_reducible refine Exists.intro _ (And.intro rfl ?_)) | ((with_reducible refine And.intro ?_ ?_); (focus exact sdA)) | fail)
  all_goals (refine rt ?_; refine fin ?_; refine Wk.bool ?_; unfold isArm armIs; rw [Bool.eq_iff_iff]; simp only [decide_eq_true_eq, beq_iff_eq, Bool.false_eq_true, false_iff]; first | omega | simp_all)
theorem indexA_fn (l : List ArmS) (r : RecS) : Fn Try.prog 172 [.d (armsD l), .fn (.func 161) [] [.ptr 0 0]] [.cells 35 r.cells] (i64 (firstI (isArm r) l)) [.cells 35 r.cells] := by
  refine en Try.func172 (hfr := by (simp only [Try.ntmps172, go_sem, Nat.reduceSub, Nat.reduceAdd]; rfl)) ?_
  refine W.le (s := 0) rfl fun hm => ?_
  rw [List.length_map] at hm
  repeat' (first | exact absurd hb Bool.false_ne_true | exact absurd hb.symm Bool.false_ne_true | refine W.seq ?_ | refine W.block ?_ | (refine rgx [2] [] ?_; intro K hK) | (refine drx [2] [] ?_; intro K hK) | refine oq ?_ | refine sk ?_ | (refine nk hK ?_; clear hK K) | (refine nd hK ?_; clear hK K) | refine sp ?_ | refine ex ?_ | (refine gs (fun hb => ?_) (fun hb => ?_) <;> replace hb := nb hb <;> try exact noB hb) | (refine cd (fun hb => ?_) (fun hb => ?_) <;> replace hb := nb hb <;> try exact noB hb) | (with_reducible refine Exists.intro _ (And.intro rfl ?_)) | ((with_reducible refine And.intro ?_ ?_); (focus exact sdA)) | fail)
  refine W.lp (ι := Nat) (fun i => (.d (armsD l) :: .fn (.func 161) [] [.ptr 0 0] :: ay 4 (.d (armsD l) :: i64 l.length :: i64 i :: ay 10 []))) (fun _ => [.cells 35 r.cells]) (fun i => i ≤ l.findIdx (isArm r)) (fun i => l.length - i) 0 (Nat.zero_le _) (Ent.to ?_ rfl) ?_
  · skip
    exact wkA
  · intro i ha
    have c := isArm_fn (l.getD i ArmS.zero) r
    have hle := List.findIdx_le_length (xs := l) (p := isArm r)
    by_cases hlt : i < l.length
    · have hx := gdS hlt ArmS.zero
      repeat' (first | exact absurd hb Bool.false_ne_true | exact absurd hb.symm Bool.false_ne_true | refine W.seq ?_ | refine W.block ?_ | (refine rg [] ?_; intro K hK) | (refine dr [] ?_; intro K hK) | refine cle [0] 0 (c) ?_ | refine oq ?_ | refine sk ?_ | (refine nk hK ?_; clear hK K) | (refine nd hK ?_; clear hK K) | refine sp ?_ | refine ex ?_ | (refine gs (fun hb => ?_) (fun hb => ?_) <;> replace hb := nb hb <;> try exact noB hb) | (refine cd (fun hb => ?_) (fun hb => ?_) <;> replace hb := nb hb <;> try exact noB hb) | (with_reducible refine Exists.intro _ (And.intro rfl ?_)) | ((with_reducible refine And.intro ?_ ?_); (focus exact sdA)) | fail)
      · rw [findIdx_here hx ha (by assumption)]
        all_goals (refine rt ?_; refine fin ?_; exact wqA)
      · refine nx (i + 1) (findIdx_step hx ha (by assumption)) (by omega) (Ent.to ?_ rfl)
        exact wkA
    · skip
      repeat' (first | exact absurd hb Bool.false_ne_true | exact absurd hb.symm Bool.false_ne_true | refine W.seq ?_ | refine W.block ?_ | (refine rg [] ?_; intro K hK) | (refine dr [] ?_; intro K hK) | refine oq ?_ | refine sk ?_ | (refine nk hK ?_; clear hK K) | (refine nd hK ?_; clear hK K) | refine sp ?_ | refine ex ?_ | (refine gs (fun hb => ?_) (fun hb => ?_) <;> replace hb := nb hb <;> try exact noB hb) | (refine cd (fun hb => ?_) (fun hb => ?_) <;> replace hb := nb hb <;> try exact noB hb) | (with_reducible refine Exists.intro _ (And.intro rfl ?_)) | ((with_reducible refine And.intro ?_ ?_); (focus exact sdA)) | fail)
      rw [show firstI (isArm r) l = -1 by unfold firstI; rw [if_neg (by omega)]]
      all_goals (refine rt ?_; refine fin ?_; exact wqA)
theorem containsA_fn (l : List ArmS) (r : RecS) : Fn Try.prog 160 [.d (armsD l), .fn (.func 161) [] [.ptr 0 0]] [.cells 35 r.cells] (bool (l.any (isArm r))) [.cells 35 r.cells] := by
  have c := indexA_fn l r
  rw [← firstI_any]
  refine en Try.func160 (hfr := by (simp only [Try.ntmps160, go_sem, Nat.reduceSub, Nat.reduceAdd]; rfl)) ?_
  repeat' (first | exact absurd hb Bool.false_ne_true | exact absurd hb.symm Bool.false_ne_true | refine W.seq ?_ | refine W.block ?_ | (refine rg [] ?_; intro K hK) | (refine dr [] ?_; intro K hK) | refine cle [0] 0 (c) ?_ | refine oq ?_ | refine sk ?_ | (refine nk hK ?_; clear hK K) | (refine nd hK ?_; clear hK K) | refine sp ?_ | refine ex ?_ | (refine gs (fun hb => ?_) (fun hb => ?_) <;> replace hb := nb hb <;> try exact noB hb) | (refine cd (fun hb => ?_) (fun hb => ?_) <;> replace hb := nb hb <;> try exact noB hb) | (with_reducible refine Exists.intro _ (And.intro rfl ?_)) | ((with_reducible refine And.intro ?_ ?_); (focus exact sdA)) | fail)
  all_goals (refine rt ?_; refine fin ?_; exact wqA)
set_option maxHeartbeats 2000000 in
theorem xarm_fn (s : StepS) (to v : Int) : Fn Try.prog 142 [.agg s.cells, i64 to, i64 v] [] (bool (s.arms.any (armIs to v))) [] := by
  refine en Try.func142 (hfr := by (simp only [Try.ntmps142, go_sem, Nat.reduceSub, Nat.reduceAdd]; rfl)) ?_
  repeat' (first | exact absurd hb Bool.false_ne_true | exact absurd hb.symm Bool.false_ne_true | refine W.seq ?_ | refine W.block ?_ | (refine rgx [2] [] ?_; intro K hK) | (refine drx [2] [] ?_; intro K hK) | refine oq ?_ | refine sk ?_ | (refine nk hK ?_; clear hK K) | (refine nd hK ?_; clear hK K) | refine sp ?_ | refine ex ?_ | (refine gs (fun hb => ?_) (fun hb => ?_) <;> replace hb := nb hb <;> try exact noB hb) | (refine cd (fun hb => ?_) (fun hb => ?_) <;> replace hb := nb hb <;> try exact noB hb) | (with_reducible refine Exists.intro _ (And.intro rfl ?_)) | ((with_reducible refine And.intro ?_ ?_); (focus exact sdA)) | fail)
  refine W.leC (i := 0) (j := 3) rfl rfl fun hm => ?_
  rw [List.length_map] at hm
  refine W.lp (ι := Nat) (fun i => (ay 1 (i64 to :: i64 v :: .ptr 0 0 :: ay 2 (bool false :: i64 i :: ay 25 [])))) (fun _ => [.cells 42 s.cells]) (fun i => i ≤ s.arms.findIdx (armIs to v)) (fun i => s.arms.length - i) 0 (Nat.zero_le _) (Ent.to ?_ rfl) ?_
  · skip
    exact wkA
  · intro i ha
    have hle := List.findIdx_le_length (xs := s.arms) (p := armIs to v)
    have hall : ¬ s.arms.findIdx (armIs to v) < s.arms.length → s.arms.any (armIs to v) = false := fun h => by
      rw [← Bool.not_eq_true, List.any_eq_true, ← List.findIdx_lt_length]
      exact h
    by_cases hlt : i < s.arms.length
    · have hx := gdS hlt ArmS.zero
      by_cases hp : (s.arms.getD i ArmS.zero).to = to ∧ (s.arms.getD i ArmS.zero).vr = v
      · obtain ⟨h1, h2⟩ := hp
        rw [show s.arms.any (armIs to v) = true by rw [List.any_eq_true]; exact ⟨_, List.mem_of_getElem? hx, by unfold armIs; exact decide_eq_true ⟨h1, h2⟩⟩]
        repeat' (first | exact absurd hb Bool.false_ne_true | exact absurd hb.symm Bool.false_ne_true | refine W.seq ?_ | refine W.block ?_ | (refine rg [] ?_; intro K hK) | (refine dr [] ?_; intro K hK) | refine oq ?_ | refine sk ?_ | (refine nk hK ?_; clear hK K) | (refine nd hK ?_; clear hK K) | refine sp ?_ | refine ex ?_ | (refine gs (fun hb => ?_) (fun hb => ?_) <;> replace hb := nb hb <;> try exact noB hb) | (refine cd (fun hb => ?_) (fun hb => ?_) <;> replace hb := nb hb <;> try exact noB hb) | (with_reducible refine Exists.intro _ (And.intro rfl ?_)) | ((with_reducible refine And.intro ?_ ?_); (focus exact sdA)) | fail)
        all_goals (refine rt ?_; refine fin ?_; exact wqA)
      · have hx2 := findIdx_step hx ha (by unfold armIs; exact decide_eq_false hp)
        repeat' (first | exact absurd hb Bool.false_ne_true | exact absurd hb.symm Bool.false_ne_true | refine W.seq ?_ | refine W.block ?_ | (refine rg [] ?_; intro K hK) | (refine dr [] ?_; intro K hK) | refine oq ?_ | refine sk ?_ | (refine nk hK ?_; clear hK K) | (refine nd hK ?_; clear hK K) | refine sp ?_ | refine ex ?_ | (refine gs (fun hb => ?_) (fun hb => ?_) <;> replace hb := nb hb <;> try exact noB hb) | (refine cd (fun hb => ?_) (fun hb => ?_) <;> replace hb := nb hb <;> try exact noB hb) | (with_reducible refine Exists.intro _ (And.intro rfl ?_)) | ((with_reducible refine And.intro ?_ ?_); (focus exact sdA)) | fail)
        all_goals (refine nx (i + 1) hx2 (by omega) (Ent.to ?_ rfl); exact wkA)
    · rw [hall (by omega)]
      repeat' (first | exact absurd hb Bool.false_ne_true | exact absurd hb.symm Bool.false_ne_true | refine W.seq ?_ | refine W.block ?_ | (refine rg [] ?_; intro K hK) | (refine dr [] ?_; intro K hK) | refine oq ?_ | refine sk ?_ | (refine nk hK ?_; clear hK K) | (refine nd hK ?_; clear hK K) | refine sp ?_ | refine ex ?_ | (refine gs (fun hb => ?_) (fun hb => ?_) <;> replace hb := nb hb <;> try exact noB hb) | (refine cd (fun hb => ?_) (fun hb => ?_) <;> replace hb := nb hb <;> try exact noB hb) | (with_reducible refine Exists.intro _ (And.intro rfl ?_)) | ((with_reducible refine And.intro ?_ ?_); (focus exact sdA)) | fail)
      all_goals (refine rt ?_; refine fin ?_; exact wqA)
theorem zeros_texts (n : Nat) : zeros n (.sl 1 []) = (List.replicate n []).map dtext := by
  unfold zeros
  rw [List.map_replicate]
  rfl
/-- The state at first. -/
def BookS.start (b : BookS) : StS := ⟨0, 1, 0, 0, List.replicate b.vars.length []⟩
theorem start_fn (b : BookS) (hl : b.vars.length ≤ 1000000) : Fn Try.prog 18 [b.v] [] b.start.v [] := by
  refine en Try.func18 (hfr := by (simp only [Try.ntmps18, go_sem, Nat.reduceSub, Nat.reduceAdd]; rfl)) ?_
  repeat' (first | exact absurd hb Bool.false_ne_true | exact absurd hb.symm Bool.false_ne_true | refine W.seq ?_ | refine W.block ?_ | (refine rg [6] ?_; intro K hK) | (refine dr [6] ?_; intro K hK) | refine oq ?_ | refine sk ?_ | (refine nk hK ?_; clear hK K) | (refine nd hK ?_; clear hK K) | refine sp ?_ | refine ex ?_ | (refine gs (fun hb => ?_) (fun hb => ?_) <;> replace hb := nb hb <;> try exact noB hb) | (refine cd (fun hb => ?_) (fun hb => ?_) <;> replace hb := nb hb <;> try exact noB hb) | (with_reducible refine Exists.intro _ (And.intro rfl ?_)) | ((with_reducible refine And.intro ?_ ?_); (focus exact sdA)) | fail)
  rw [zeros_texts]
  all_goals (refine rt ?_; refine fin ?_; exact wqA)
theorem xstart_fn (b : BookS) (hl : b.vars.length ≤ 1000000) : Fn Try.prog 96 [b.v] [] b.start.v [] := by
  refine en Try.func96 (hfr := by (simp only [Try.ntmps96, go_sem, Nat.reduceSub, Nat.reduceAdd]; rfl)) ?_
  repeat' (first | exact absurd hb Bool.false_ne_true | exact absurd hb.symm Bool.false_ne_true | refine W.seq ?_ | refine W.block ?_ | (refine rg [6] ?_; intro K hK) | (refine dr [6] ?_; intro K hK) | refine oq ?_ | refine sk ?_ | (refine nk hK ?_; clear hK K) | (refine nd hK ?_; clear hK K) | refine sp ?_ | refine ex ?_ | (refine gs (fun hb => ?_) (fun hb => ?_) <;> replace hb := nb hb <;> try exact noB hb) | (refine cd (fun hb => ?_) (fun hb => ?_) <;> replace hb := nb hb <;> try exact noB hb) | (with_reducible refine Exists.intro _ (And.intro rfl ?_)) | ((with_reducible refine And.intro ?_ ?_); (focus exact sdA)) | fail)
  rw [zeros_texts]
  all_goals (refine rt ?_; refine fin ?_; exact wqA)
theorem target_fn (b : BookS) (n : Int) : Fn Try.prog 130 [b.v, i64 n] [] (bool (decide (-3 ≤ n ∧ n < b.steps.length))) [] := by
  refine en Try.func130 (hfr := by (simp only [Try.ntmps130, go_sem, Nat.reduceSub, Nat.reduceAdd]; rfl)) ?_
  repeat' (first | exact absurd hb Bool.false_ne_true | exact absurd hb.symm Bool.false_ne_true | refine W.seq ?_ | refine W.block ?_ | (refine rg [] ?_; intro K hK) | (refine dr [] ?_; intro K hK) | refine oq ?_ | refine sk ?_ | (refine nk hK ?_; clear hK K) | (refine nd hK ?_; clear hK K) | refine sp ?_ | refine ex ?_ | (refine gs (fun hb => ?_) (fun hb => ?_) <;> replace hb := nb hb <;> try exact noB hb) | (refine cd (fun hb => ?_) (fun hb => ?_) <;> replace hb := nb hb <;> try exact noB hb) | (with_reducible refine Exists.intro _ (And.intro rfl ?_)) | ((with_reducible refine And.intro ?_ ?_); (focus exact sdA)) | fail)
  all_goals (refine rt ?_; refine fin ?_; refine Wk.bool ?_; rw [Bool.eq_iff_iff]; simp only [decide_eq_true_eq, Bool.false_eq_true, false_iff]; omega)
theorem long_fn (b : List UInt8) : Fn Try.prog 131 [bytes b] [] (bool (decide (100 < b.length))) [] := by
  refine en Try.func131 (hfr := by (simp only [Try.ntmps131, go_sem, Nat.reduceSub, Nat.reduceAdd]; rfl)) ?_
  repeat' (first | exact absurd hb Bool.false_ne_true | exact absurd hb.symm Bool.false_ne_true | refine W.seq ?_ | refine W.block ?_ | (refine rg [] ?_; intro K hK) | (refine dr [] ?_; intro K hK) | refine oq ?_ | refine sk ?_ | (refine nk hK ?_; clear hK K) | (refine nd hK ?_; clear hK K) | refine sp ?_ | refine ex ?_ | (refine gs (fun hb => ?_) (fun hb => ?_) <;> replace hb := nb hb <;> try exact noB hb) | (refine cd (fun hb => ?_) (fun hb => ?_) <;> replace hb := nb hb <;> try exact noB hb) | (with_reducible refine Exists.intro _ (And.intro rfl ?_)) | ((with_reducible refine And.intro ?_ ?_); (focus exact sdA)) | fail)
  all_goals (refine rt ?_; refine fin ?_; refine Wk.bool ?_; rw [Bool.eq_iff_iff]; simp only [decide_eq_true_eq]; omega)
/-- Books of which the numbers are small. -/
def BookS.ok (b : BookS) : Prop := b.steps.length ≤ 35 ∧ b.vars.length ≤ 20 ∧ -1000000 < b.most ∧ b.most < 1000000 ∧ ∀ s ∈ b.steps, -1000000 ≤ s.tr ∧ s.tr ≤ 1000000
theorem BookS.ok_at {b : BookS} (h : b.ok) (n : Int) : -1000000 ≤ (b.at n).tr ∧ (b.at n).tr ≤ 1000000 := by
  unfold BookS.at
  rw [List.getD_eq_getElem?_getD]
  cases hx : b.steps[n.toNat]? with
  | none => exact ⟨by decide, by decide⟩
  | some s => exact h.2.2.2.2 s (List.mem_of_getElem? hx)
def shortB (l : List (List UInt8)) : Bool := l.all fun v => decide (v.length ≤ 100)
theorem short_any (l : List (List UInt8)) : (l.any fun v => decide (100 < v.length)) = !shortB l := by
  unfold shortB
  rw [List.any_eq_not_all_not]
  congr 2
  funext v
  rw [Bool.eq_iff_iff]
  simp only [Bool.not_eq_true', decide_eq_false_iff_not, decide_eq_true_eq]
  omega
/-- Is a state right? -/
def rightS (b : BookS) (s : StS) : Prop := (-3 ≤ s.step ∧ s.step < b.steps.length) ∧ 1 ≤ s.visit ∧ 0 ≤ s.tries ∧ 0 ≤ s.off ∧ s.off ≤ 2147483647 ∧ s.vars.length = b.vars.length ∧ shortB s.vars = true ∧ (if s.step < 0 then s.visit ≤ b.most + 1 ∧ s.tries = 0 else s.visit ≤ b.most ∧ s.tries ≤ (b.at s.step).tr + 1)
instance (b : BookS) (s : StS) : Decidable (rightS b s) := by unfold rightS; exact inferInstance
abbrev rowT (l : List (List UInt8)) : List V := (l.map dtext).map .d
theorem set_same {α : Type} (l : List α) (i : Nat) (x : α) (h : l[i]? = some x) : l.set i x = l := by
  apply List.ext_getElem?
  intro j
  rw [List.getElem?_set]
  split
  · rename_i e
    subst e
    obtain ⟨hl, e⟩ := List.getElem?_eq_some_iff.1 h
    rw [if_pos hl, h]
  · rfl
theorem rowT_set (l : List (List UInt8)) (i : Nat) (x : List UInt8) : (rowT l).set i (bytes x) = rowT (l.set i x) := by
  unfold rowT
  rw [List.map_set, List.map_set]
theorem rowT_same (l : List (List UInt8)) (i : Nat) (h : i < l.length) : (rowT l).set i (bytes (l.getD i [])) = rowT l := by
  rw [rowT_set, set_same l i _ (gdS h [])]
theorem short_le {l : List (List UInt8)} (h : shortB l = true) (i : Nat) : (l.getD i []).length ≤ 100 := all_getD l i h
set_option maxHeartbeats 4000000 in
theorem copied_fn (s : StS) (hl : s.vars.length ≤ 1000000) (hv : shortB s.vars = true) : Fn Try.prog 74 [s.v] [] (.agg [i64 s.step, i64 s.visit, i64 s.tries, i64 s.off, .hd 0 1 s.vars.length]) [.grw 33 1 1 s.vars.length (rowT s.vars)] := by
  have c := cloneT_fn s.vars hl
  refine en Try.func74 (hfr := by (simp only [Try.ntmps74, go_sem, Nat.reduceSub, Nat.reduceAdd]; rfl)) ?_
  refine W.ent (Ent.more 1) ?_
  repeat' (first | exact absurd hb Bool.false_ne_true | exact absurd hb.symm Bool.false_ne_true | refine W.seq ?_ | refine W.block ?_ | (refine rgx [3] [] ?_; intro K hK) | (refine drx [3] [] ?_; intro K hK) | refine cle [0] 1 (c) ?_ | refine oq ?_ | refine sk ?_ | (refine nk hK ?_; clear hK K) | (refine nd hK ?_; clear hK K) | refine sp ?_ | refine ex ?_ | (refine gs (fun hb => ?_) (fun hb => ?_) <;> replace hb := nb hb <;> try exact noB hb) | (refine cd (fun hb => ?_) (fun hb => ?_) <;> replace hb := nb hb <;> try exact noB hb) | (with_reducible refine Exists.intro _ (And.intro rfl ?_)) | ((with_reducible refine And.intro ?_ ?_); (focus exact sdA)) | fail)
  refine W.lp (ι := Nat) (fun i => (ay 1 (.ptr 1 0 :: .ptr 2 0 :: ay 7 (i64 s.vars.length :: i64 i :: ay 14 [])))) (fun i => [.grw 33 1 1 s.vars.length (rowT s.vars), .cells 31 [i64 s.step, i64 s.visit, i64 s.tries, i64 s.off, .hd 0 1 s.vars.length], .cells 31 [i64 0, i64 0, i64 0, i64 0, .nil]]) (fun i => i ≤ s.vars.length) (fun i => s.vars.length - i) 0 (Nat.zero_le _) (Ent.to ?_ rfl) ?_
  · skip
    exact wkA
  · intro i hi
    have hs := short_le hv i
    have cc := clone_fn (s.vars.getD i []) (by omega)
    repeat' (first | exact absurd hb Bool.false_ne_true | exact absurd hb.symm Bool.false_ne_true | refine W.seq ?_ | refine W.block ?_ | (refine rg [] ?_; intro K hK) | (refine dr [] ?_; intro K hK) | refine cl (cc) ?_ | refine oq ?_ | refine sk ?_ | (refine nk hK ?_; clear hK K) | (refine nd hK ?_; clear hK K) | refine sp ?_ | refine ex ?_ | (refine gs (fun hb => ?_) (fun hb => ?_) <;> replace hb := nb hb <;> try exact noB hb) | (refine cd (fun hb => ?_) (fun hb => ?_) <;> replace hb := nb hb <;> try exact noB hb) | (with_reducible refine Exists.intro _ (And.intro rfl ?_)) | ((with_reducible refine And.intro ?_ ?_); (focus exact sdA)) | fail)
    · rw [rowT_same s.vars i (by omega)]
      refine nx (i + 1) (by omega) (by omega) (Ent.to ?_ rfl)
      exact wkA
    · skip
      all_goals (refine rt ?_; refine fin ?_; exact wqA)
/-- A run: the book, the state, the texts in memory of their own. -/
abbrev runS (b : BookS) (s : StS) : List Ob := [.cells 136 [.d (stepsD b.steps), .d (namesD b.vars), i64 b.most, i64 s.step, i64 s.visit, i64 s.tries, i64 s.off, .hd 1 1 s.vars.length], .grw 33 1 1 s.vars.length (rowT s.vars)]
/-- May an Intent follow? -/
def intOK (b : BookS) (s : StS) (r : RecS) : Prop := r.st = s.step ∧ r.try' = s.tries ∧ r.try' ≤ (b.at s.step).tr
instance (b : BookS) (s : StS) (r : RecS) : Decidable (intOK b s r) := by unfold intOK; exact inferInstance
abbrev StS.tried (s : StS) : StS := { s with tries := s.tries + 1 }
set_option maxHeartbeats 4000000 in
theorem intent_ok (b : BookS) (s : StS) (r : RecS) (h0 : 0 ≤ s.step ∧ s.step < b.steps.length) (ht : -1000 ≤ s.tries ∧ s.tries ≤ 2000000) (h : intOK b s r) : Fn Try.prog 133 [.ptr 0 0, r.v] (runS b s) (bool true) (runS b s.tried) := by
  obtain ⟨h1, h2, h3⟩ := h
  have h3' : r.try' ≤ (b.steps.getD s.step.toNat StepS.zero).tr := h3
  refine en Try.func133 (hfr := by (simp only [Try.ntmps133, go_sem, Nat.reduceSub, Nat.reduceAdd]; rfl)) ?_
  repeat' (first | exact absurd hb Bool.false_ne_true | exact absurd hb.symm Bool.false_ne_true | refine W.seq ?_ | refine W.block ?_ | (refine rg [] ?_; intro K hK) | (refine dr [] ?_; intro K hK) | refine oq ?_ | refine sk ?_ | (refine nk hK ?_; clear hK K) | (refine nd hK ?_; clear hK K) | refine sp ?_ | refine ex ?_ | (refine gs (fun hb => ?_) (fun hb => ?_) <;> replace hb := nb hb <;> try exact noB hb) | (refine cd (fun hb => ?_) (fun hb => ?_) <;> replace hb := nb hb <;> try exact noB hb) | (with_reducible refine Exists.intro _ (And.intro rfl ?_)) | ((with_reducible refine And.intro ?_ ?_); (focus exact sdA)) | fail)
  all_goals (refine rt ?_; refine fin ?_; exact wqA)
set_option maxHeartbeats 4000000 in
theorem intent_no (b : BookS) (s : StS) (r : RecS) (h0 : 0 ≤ s.step ∧ s.step < b.steps.length) (h : ¬ intOK b s r) : Fn Try.prog 133 [.ptr 0 0, r.v] (runS b s) (bool false) (runS b s) := by
  unfold intOK BookS.at at h
  refine en Try.func133 (hfr := by (simp only [Try.ntmps133, go_sem, Nat.reduceSub, Nat.reduceAdd]; rfl)) ?_
  repeat' (first | exact absurd hb Bool.false_ne_true | exact absurd hb.symm Bool.false_ne_true | refine W.seq ?_ | refine W.block ?_ | (refine rg [] ?_; intro K hK) | (refine dr [] ?_; intro K hK) | refine oq ?_ | refine sk ?_ | (refine nk hK ?_; clear hK K) | (refine nd hK ?_; clear hK K) | refine sp ?_ | refine ex ?_ | (refine gs (fun hb => ?_) (fun hb => ?_) <;> replace hb := nb hb <;> try exact noB hb) | (refine cd (fun hb => ?_) (fun hb => ?_) <;> replace hb := nb hb <;> try exact noB hb) | (with_reducible refine Exists.intro _ (And.intro rfl ?_)) | ((with_reducible refine And.intro ?_ ?_); (focus exact sdA)) | fail)
  all_goals first | (exfalso; omega) | (refine rt ?_; refine fin ?_; exact wqA)
theorem kinds_fn : Fn Try.prog 75 [] [] (.map 0) [.mp [(.int .i64 2, .fn (.func 133) [] [], 0), (.int .i64 3, .fn (.func 134) [] [], 1)] 2] := by
  refine en Try.func75 (hfr := by (simp only [Try.ntmps75, go_sem, Nat.reduceSub, Nat.reduceAdd]; rfl)) ?_
  repeat' (first | exact absurd hb Bool.false_ne_true | exact absurd hb.symm Bool.false_ne_true | refine W.seq ?_ | refine W.block ?_ | (refine rg [] ?_; intro K hK) | (refine dr [] ?_; intro K hK) | refine oq ?_ | refine sk ?_ | (refine nk hK ?_; clear hK K) | (refine nd hK ?_; clear hK K) | refine sp ?_ | refine ex ?_ | (refine gs (fun hb => ?_) (fun hb => ?_) <;> replace hb := nb hb <;> try exact noB hb) | (refine cd (fun hb => ?_) (fun hb => ?_) <;> replace hb := nb hb <;> try exact noB hb) | (with_reducible refine Exists.intro _ (And.intro rfl ?_)) | ((with_reducible refine And.intro ?_ ?_); (focus exact sdA)) | fail)
  all_goals (refine rt ?_; refine fin ?_; exact wqA)
theorem right_neg (b : BookS) (s : StS) (h : s.step < 0) (hs : shortB s.vars = true) : rightS b s ↔ -3 ≤ s.step ∧ s.step < b.steps.length ∧ 1 ≤ s.visit ∧ 0 ≤ s.tries ∧ 0 ≤ s.off ∧ s.off ≤ 2147483647 ∧ s.vars.length = b.vars.length ∧ s.visit ≤ b.most + 1 ∧ s.tries = 0 := by
  unfold rightS
  rw [if_pos h, hs]
  simp only [true_and, and_assoc]
theorem right_pos (b : BookS) (s : StS) (h : ¬ s.step < 0) (hs : shortB s.vars = true) : rightS b s ↔ -3 ≤ s.step ∧ s.step < b.steps.length ∧ 1 ≤ s.visit ∧ 0 ≤ s.tries ∧ 0 ≤ s.off ∧ s.off ≤ 2147483647 ∧ s.vars.length = b.vars.length ∧ s.visit ≤ b.most ∧ s.tries ≤ (b.steps.getD s.step.toNat StepS.zero).tr + 1 := by
  unfold rightS BookS.at
  rw [if_neg h, hs]
  simp only [true_and, and_assoc]
set_option maxHeartbeats 4000000 in
theorem right_fn (b : BookS) (s : StS) (hb : b.ok) : Fn Try.prog 73 [b.v, s.v] [] (bool (decide (rightS b s))) [] := by
  have ht := target_fn b s.step
  have hc := containsT_fn 131 _ long_fn s.vars
  rw [short_any] at hc
  have hat : -1000000 ≤ (b.steps.getD s.step.toNat StepS.zero).tr ∧ (b.steps.getD s.step.toNat StepS.zero).tr ≤ 1000000 := b.ok_at hb s.step
  have hok := hb
  unfold BookS.ok at hok
  obtain ⟨k1, k2, k3, k4, _⟩ := hok
  by_cases h0 : -3 ≤ s.step ∧ s.step < b.steps.length
  · rw [decide_eq_true h0] at ht
    by_cases hs : shortB s.vars = true
    · rw [hs] at hc
      by_cases h1 : s.step < 0
      · have hr := right_neg b s h1 hs
        refine en Try.func73 (hfr := by (simp only [Try.ntmps73, go_sem, Nat.reduceSub, Nat.reduceAdd]; rfl)) ?_
        repeat' (first | exact absurd hb Bool.false_ne_true | exact absurd hb.symm Bool.false_ne_true | refine W.seq ?_ | refine W.block ?_ | (refine rg [] ?_; intro K hK) | (refine dr [] ?_; intro K hK) | refine cl (ht) ?_ | refine cl (hc) ?_ | refine oq ?_ | refine sk ?_ | (refine nk hK ?_; clear hK K) | (refine nd hK ?_; clear hK K) | refine sp ?_ | refine ex ?_ | (refine gs (fun hb => ?_) (fun hb => ?_) <;> replace hb := nb hb <;> try exact noB hb) | (refine cd (fun hb => ?_) (fun hb => ?_) <;> replace hb := nb hb <;> try exact noB hb) | (with_reducible refine Exists.intro _ (And.intro rfl ?_)) | ((with_reducible refine And.intro ?_ ?_); (focus exact sdA)) | fail)
        all_goals (refine rt ?_; refine fin ?_; refine Wk.bool ?_; rw [Bool.eq_iff_iff]; simp only [decide_eq_true_eq, Bool.not_true, Bool.not_false, Bool.false_eq_true, false_iff, true_iff, hr]; omega)
      · have hr := right_pos b s h1 hs
        refine en Try.func73 (hfr := by (simp only [Try.ntmps73, go_sem, Nat.reduceSub, Nat.reduceAdd]; rfl)) ?_
        repeat' (first | exact absurd hb Bool.false_ne_true | exact absurd hb.symm Bool.false_ne_true | refine W.seq ?_ | refine W.block ?_ | (refine rg [] ?_; intro K hK) | (refine dr [] ?_; intro K hK) | refine cl (ht) ?_ | refine cl (hc) ?_ | refine oq ?_ | refine sk ?_ | (refine nk hK ?_; clear hK K) | (refine nd hK ?_; clear hK K) | refine sp ?_ | refine ex ?_ | (refine gs (fun hb => ?_) (fun hb => ?_) <;> replace hb := nb hb <;> try exact noB hb) | (refine cd (fun hb => ?_) (fun hb => ?_) <;> replace hb := nb hb <;> try exact noB hb) | (with_reducible refine Exists.intro _ (And.intro rfl ?_)) | ((with_reducible refine And.intro ?_ ?_); (focus exact sdA)) | fail)
        all_goals (refine rt ?_; refine fin ?_; refine Wk.bool ?_; rw [Bool.eq_iff_iff]; simp only [decide_eq_true_eq, Bool.not_true, Bool.not_false, Bool.false_eq_true, false_iff, true_iff, hr]; omega)
    · rw [decide_eq_false (p := rightS b s) (fun h => hs h.2.2.2.2.2.2.1)]
      rw [Bool.not_eq_true] at hs
      rw [hs] at hc
      by_cases h1 : s.step < 0
      · skip
        refine en Try.func73 (hfr := by (simp only [Try.ntmps73, go_sem, Nat.reduceSub, Nat.reduceAdd]; rfl)) ?_
        repeat' (first | exact absurd hb Bool.false_ne_true | exact absurd hb.symm Bool.false_ne_true | refine W.seq ?_ | refine W.block ?_ | (refine rg [] ?_; intro K hK) | (refine dr [] ?_; intro K hK) | refine cl (ht) ?_ | refine cl (hc) ?_ | refine oq ?_ | refine sk ?_ | (refine nk hK ?_; clear hK K) | (refine nd hK ?_; clear hK K) | refine sp ?_ | refine ex ?_ | (refine gs (fun hb => ?_) (fun hb => ?_) <;> replace hb := nb hb <;> try exact noB hb) | (refine cd (fun hb => ?_) (fun hb => ?_) <;> replace hb := nb hb <;> try exact noB hb) | (with_reducible refine Exists.intro _ (And.intro rfl ?_)) | ((with_reducible refine And.intro ?_ ?_); (focus exact sdA)) | fail)
        all_goals (refine rt ?_; refine fin ?_; exact wqA)
      · skip
        refine en Try.func73 (hfr := by (simp only [Try.ntmps73, go_sem, Nat.reduceSub, Nat.reduceAdd]; rfl)) ?_
        repeat' (first | exact absurd hb Bool.false_ne_true | exact absurd hb.symm Bool.false_ne_true | refine W.seq ?_ | refine W.block ?_ | (refine rg [] ?_; intro K hK) | (refine dr [] ?_; intro K hK) | refine cl (ht) ?_ | refine cl (hc) ?_ | refine oq ?_ | refine sk ?_ | (refine nk hK ?_; clear hK K) | (refine nd hK ?_; clear hK K) | refine sp ?_ | refine ex ?_ | (refine gs (fun hb => ?_) (fun hb => ?_) <;> replace hb := nb hb <;> try exact noB hb) | (refine cd (fun hb => ?_) (fun hb => ?_) <;> replace hb := nb hb <;> try exact noB hb) | (with_reducible refine Exists.intro _ (And.intro rfl ?_)) | ((with_reducible refine And.intro ?_ ?_); (focus exact sdA)) | fail)
        all_goals (refine rt ?_; refine fin ?_; exact wqA)
  · rw [decide_eq_false h0] at ht
    rw [decide_eq_false (p := rightS b s) (fun h => h0 h.1)]
    refine en Try.func73 (hfr := by (simp only [Try.ntmps73, go_sem, Nat.reduceSub, Nat.reduceAdd]; rfl)) ?_
    repeat' (first | exact absurd hb Bool.false_ne_true | exact absurd hb.symm Bool.false_ne_true | refine W.seq ?_ | refine W.block ?_ | (refine rg [] ?_; intro K hK) | (refine dr [] ?_; intro K hK) | refine cl (ht) ?_ | refine oq ?_ | refine sk ?_ | (refine nk hK ?_; clear hK K) | (refine nd hK ?_; clear hK K) | refine sp ?_ | refine ex ?_ | (refine gs (fun hb => ?_) (fun hb => ?_) <;> replace hb := nb hb <;> try exact noB hb) | (refine cd (fun hb => ?_) (fun hb => ?_) <;> replace hb := nb hb <;> try exact noB hb) | (with_reducible refine Exists.intro _ (And.intro rfl ?_)) | ((with_reducible refine And.intro ?_ ?_); (focus exact sdA)) | fail)
    all_goals (refine rt ?_; refine fin ?_; exact wqA)
set_option maxHeartbeats 4000000 in
theorem xright_fn (b : BookS) (s : StS) (hb : b.ok) : Fn Try.prog 97 [b.v, s.v] [] (bool (decide (rightS b s))) [] := by
  have hat : -1000000 ≤ (b.steps.getD s.step.toNat StepS.zero).tr ∧ (b.steps.getD s.step.toNat StepS.zero).tr ≤ 1000000 := b.ok_at hb s.step
  have hok := hb
  unfold BookS.ok at hok
  obtain ⟨k1, k2, k3, k4, _⟩ := hok
  refine en Try.func97 (hfr := by (simp only [Try.ntmps97, go_sem, Nat.reduceSub, Nat.reduceAdd]; rfl)) ?_
  repeat' (first | exact absurd hb Bool.false_ne_true | exact absurd hb.symm Bool.false_ne_true | refine W.seq ?_ | refine W.block ?_ | (refine rgx [1] [] ?_; intro K hK) | (refine drx [1] [] ?_; intro K hK) | refine oq ?_ | refine sk ?_ | (refine nk hK ?_; clear hK K) | (refine nd hK ?_; clear hK K) | refine sp ?_ | refine ex ?_ | (refine gs (fun hb => ?_) (fun hb => ?_) <;> replace hb := nb hb <;> try exact noB hb) | (refine cd (fun hb => ?_) (fun hb => ?_) <;> replace hb := nb hb <;> try exact noB hb) | (with_reducible refine Exists.intro _ (And.intro rfl ?_)) | ((with_reducible refine And.intro ?_ ?_); (focus exact sdA)) | fail)
  refine W.leC (i := 1) (j := 4) rfl rfl fun hm => ?_
  rw [List.length_map] at hm
  refine W.jn ((ay 2 (.ptr 0 0 :: .ptr 1 0 :: bool false :: ay 40 (bool (!decide ((-3 ≤ s.step ∧ s.step < b.steps.length) ∧ 1 ≤ s.visit ∧ 0 ≤ s.tries ∧ 0 ≤ s.off ∧ s.off ≤ 2147483647 ∧ s.vars.length = b.vars.length)) :: ay 46 [])))) [.cells 25 b.cells, .cells 31 s.cells] ?_ ?_
  · skip
    repeat' (first | exact absurd hb Bool.false_ne_true | exact absurd hb.symm Bool.false_ne_true | refine W.seq ?_ | refine W.block ?_ | (refine rg [] ?_; intro K hK) | (refine dr [] ?_; intro K hK) | refine oq ?_ | refine sk ?_ | (refine nk hK ?_; clear hK K) | (refine nd hK ?_; clear hK K) | refine sp ?_ | refine ex ?_ | (refine gs (fun hb => ?_) (fun hb => ?_) <;> replace hb := nb hb <;> try exact noB hb) | (refine cd (fun hb => ?_) (fun hb => ?_) <;> replace hb := nb hb <;> try exact noB hb) | (with_reducible refine Exists.intro _ (And.intro rfl ?_)) | ((with_reducible refine And.intro ?_ ?_); (focus exact sdA)) | fail)
    all_goals refine Ent.to ?_ rfl
    all_goals (repeat' (first | exact WkL.nil | refine WkL.cons ?_ ?_ | exact Wk.any | exact Wk.rfl | refine Wk.bool ?_))
    all_goals (rw [Bool.eq_iff_iff]; simp only [Bool.not_eq_true', decide_eq_false_iff_not, decide_eq_true_eq, bne_iff_ne, ne_eq, true_iff, false_iff, Bool.false_eq_true]; omega)
  repeat' (first | exact absurd hb Bool.false_ne_true | exact absurd hb.symm Bool.false_ne_true | refine W.seq ?_ | refine W.block ?_ | (refine rgx [3] [] ?_; intro K hK) | (refine drx [3] [] ?_; intro K hK) | refine oq ?_ | refine sk ?_ | (refine nk hK ?_; clear hK K) | (refine nd hK ?_; clear hK K) | refine sp ?_ | refine ex ?_ | (refine gs (fun hb => ?_) (fun hb => ?_) <;> replace hb := nb hb <;> try exact noB hb) | (refine cd (fun hb => ?_) (fun hb => ?_) <;> replace hb := nb hb <;> try exact noB hb) | (with_reducible refine Exists.intro _ (And.intro rfl ?_)) | ((with_reducible refine And.intro ?_ ?_); (focus exact sdA)) | fail)
  · rw [decide_eq_false (p := rightS b s) (fun h => by unfold rightS at h; omega)]
    all_goals (refine rt ?_; refine fin ?_; exact wqA)
  have h6 : ((-3 ≤ s.step ∧ s.step < b.steps.length) ∧ 1 ≤ s.visit ∧ 0 ≤ s.tries ∧ 0 ≤ s.off ∧ s.off ≤ 2147483647 ∧ s.vars.length = b.vars.length) := ‹_›
  repeat' (first | exact absurd hb Bool.false_ne_true | exact absurd hb.symm Bool.false_ne_true | refine W.seq ?_ | refine W.block ?_ | (refine rgx [4] [] ?_; intro K hK) | (refine drx [4] [] ?_; intro K hK) | refine oq ?_ | refine sk ?_ | (refine nk hK ?_; clear hK K) | (refine nd hK ?_; clear hK K) | refine sp ?_ | refine ex ?_ | (refine gs (fun hb => ?_) (fun hb => ?_) <;> replace hb := nb hb <;> try exact noB hb) | (refine cd (fun hb => ?_) (fun hb => ?_) <;> replace hb := nb hb <;> try exact noB hb) | (with_reducible refine Exists.intro _ (And.intro rfl ?_)) | ((with_reducible refine And.intro ?_ ?_); (focus exact sdA)) | fail)
  refine W.lp (ι := Nat) (fun i => (ay 2 (.ptr 0 0 :: .ptr 1 0 :: bool false :: i64 i :: ay 86 []))) (fun _ => [.cells 25 b.cells, .cells 31 s.cells]) (fun i => i ≤ s.vars.length ∧ (s.vars.take i).all (fun v => decide (v.length ≤ 100)) = true) (fun i => s.vars.length - i) 0 ⟨Nat.zero_le _, rfl⟩ (Ent.to ?_ rfl) ?_
  · skip
    exact wkA
  · rintro i ⟨hi, ha⟩
    by_cases hlt : i < s.vars.length
    · have hx := gdS hlt ([] : List UInt8)
      by_cases hg : (s.vars.getD i []).length ≤ 100
      · skip
        repeat' (first | exact absurd hb Bool.false_ne_true | exact absurd hb.symm Bool.false_ne_true | refine W.seq ?_ | refine W.block ?_ | (refine rg [] ?_; intro K hK) | (refine dr [] ?_; intro K hK) | refine oq ?_ | refine sk ?_ | (refine nk hK ?_; clear hK K) | (refine nd hK ?_; clear hK K) | refine sp ?_ | refine ex ?_ | (refine gs (fun hb => ?_) (fun hb => ?_) <;> replace hb := nb hb <;> try exact noB hb) | (refine cd (fun hb => ?_) (fun hb => ?_) <;> replace hb := nb hb <;> try exact noB hb) | (with_reducible refine Exists.intro _ (And.intro rfl ?_)) | ((with_reducible refine And.intro ?_ ?_); (focus exact sdA)) | fail)
        refine nx (i + 1) ⟨by omega, allT ha hx (by simp only [decide_eq_true_eq]; omega)⟩ (by omega) (Ent.to ?_ rfl)
        exact wkA
      · rw [decide_eq_false (p := rightS b s) (fun h => by have h7 := h.2.2.2.2.2.2.1; unfold shortB at h7; rw [allF hx (by simp only [decide_eq_false_iff_not]; omega)] at h7; cases h7)]
        repeat' (first | exact absurd hb Bool.false_ne_true | exact absurd hb.symm Bool.false_ne_true | refine W.seq ?_ | refine W.block ?_ | (refine rg [] ?_; intro K hK) | (refine dr [] ?_; intro K hK) | refine oq ?_ | refine sk ?_ | (refine nk hK ?_; clear hK K) | (refine nd hK ?_; clear hK K) | refine sp ?_ | refine ex ?_ | (refine gs (fun hb => ?_) (fun hb => ?_) <;> replace hb := nb hb <;> try exact noB hb) | (refine cd (fun hb => ?_) (fun hb => ?_) <;> replace hb := nb hb <;> try exact noB hb) | (with_reducible refine Exists.intro _ (And.intro rfl ?_)) | ((with_reducible refine And.intro ?_ ?_); (focus exact sdA)) | fail)
        all_goals (refine rt ?_; refine fin ?_; exact wqA)
    · rw [List.take_of_length_le (by omega)] at ha
      have hs : shortB s.vars = true := ha
      by_cases h1 : s.step < 0
      · have hr := right_neg b s h1 hs
        repeat' (first | exact absurd hb Bool.false_ne_true | exact absurd hb.symm Bool.false_ne_true | refine W.seq ?_ | refine W.block ?_ | (refine rg [] ?_; intro K hK) | (refine dr [] ?_; intro K hK) | refine oq ?_ | refine sk ?_ | (refine nk hK ?_; clear hK K) | (refine nd hK ?_; clear hK K) | refine sp ?_ | refine ex ?_ | (refine gs (fun hb => ?_) (fun hb => ?_) <;> replace hb := nb hb <;> try exact noB hb) | (refine cd (fun hb => ?_) (fun hb => ?_) <;> replace hb := nb hb <;> try exact noB hb) | (with_reducible refine Exists.intro _ (And.intro rfl ?_)) | ((with_reducible refine And.intro ?_ ?_); (focus exact sdA)) | fail)
        all_goals (refine rt ?_; refine fin ?_; refine Wk.bool ?_; rw [Bool.eq_iff_iff]; simp only [decide_eq_true_eq, beq_iff_eq, Bool.not_true, Bool.not_false, Bool.false_eq_true, false_iff, true_iff, hr]; omega)
      · have hr := right_pos b s h1 hs
        repeat' (first | exact absurd hb Bool.false_ne_true | exact absurd hb.symm Bool.false_ne_true | refine W.seq ?_ | refine W.block ?_ | (refine rg [] ?_; intro K hK) | (refine dr [] ?_; intro K hK) | refine oq ?_ | refine sk ?_ | (refine nk hK ?_; clear hK K) | (refine nd hK ?_; clear hK K) | refine sp ?_ | refine ex ?_ | (refine gs (fun hb => ?_) (fun hb => ?_) <;> replace hb := nb hb <;> try exact noB hb) | (refine cd (fun hb => ?_) (fun hb => ?_) <;> replace hb := nb hb <;> try exact noB hb) | (with_reducible refine Exists.intro _ (And.intro rfl ?_)) | ((with_reducible refine And.intro ?_ ?_); (focus exact sdA)) | fail)
        all_goals (refine rt ?_; refine fin ?_; refine Wk.bool ?_; rw [Bool.eq_iff_iff]; simp only [decide_eq_true_eq, beq_iff_eq, Bool.not_true, Bool.not_false, Bool.false_eq_true, false_iff, true_iff, hr]; omega)
end Go.Proofs.Ytpmbeldmclcjlaa.Vs
