/- instructions, as the document's. -/
import Derived.Test.YtgebfcdcpmmgnaaVnA
import Derived.Test.YtgebfcdcpmmgnaaVsXa
set_option linter.unusedVariables false
set_option linter.unusedSimpArgs false
namespace Go.Proofs.Ytgebfcdcpmmgnaa.Vs
open Go.RowKit
set_option maxRecDepth 100000
structure OpS where
  kind : Int
  not : Bool
  spans : List SpanS
deriving DecidableEq
abbrev opD (o : OpS) : D := .agg [.int .i64 o.kind, .bool o.not, spansD o.spans]
abbrev opsD (l : List OpS) : D := .sl 3 (l.map opD)
def OpS.zero : OpS := ⟨0, false, []⟩
@[go_sem] theorem gd_op (l : List OpS) (n : Nat) : (l.map opD).getD n (.agg [.int .i64 0, .bool false, .sl 2 []]) = opD (l.getD n OpS.zero) := gd_map opD l n OpS.zero
theorem takeS_map {α β : Type} (f : α → β) (l : List α) (i : Nat) (h : i < l.length) (d : α) : (l.take i).map f ++ [f (l.getD i d)] = (l.take (i + 1)).map f := by
  rw [List.take_add_one, gdS h d, List.map_append]
  rfl
set_option maxHeartbeats 4000000 in
theorem nas_fn (l : List InstS) (hl : l.length ≤ 10000) (hs : ∀ x ∈ l, x.spans.length ≤ 10000) : Fn Try.prog 38 [.d (instsD l)] [] (.d (instsD l)) [] := by
  refine en Try.func38 (hfr := by (simp only [Try.ntmps38, go_sem, Nat.reduceSub, Nat.reduceAdd]; rfl)) ?_
  repeat' (first | exact absurd hb Bool.false_ne_true | exact absurd hb.symm Bool.false_ne_true | refine W.seq ?_ | refine W.block ?_ | (refine rgx [3] [] ?_; intro K hK) | (refine drx [3] [] ?_; intro K hK) | refine oq ?_ | refine sk ?_ | (refine nk hK ?_; clear hK K) | (refine nd hK ?_; clear hK K) | refine sp ?_ | refine ex ?_ | (refine gs (fun hb => ?_) (fun hb => ?_) <;> replace hb := nb hb <;> try exact noB hb) | (refine cd (fun hb => ?_) (fun hb => ?_) <;> replace hb := nb hb <;> try exact noB hb) | (with_reducible refine Exists.intro _ (And.intro rfl ?_)) | ((with_reducible refine And.intro ?_ ?_); (focus exact sdA)) | fail)
  refine W.ent (Ent.more 1) ?_
  refine W.ent (Ent.nilOwn 86 (i := 0) (q := 5) (fr' := (.d (instsD l) :: ay 2 (.own 5 [] 0 :: i64 0 :: ay 68 []))) rfl (by decide) ?_) ?_
  · skip
    repeat' (first | exact NoL.nil | refine NoL.own ?_ | refine NoL.cons ?_ ?_ | exact Wk.any | exact Wk.rfl)
  refine W.lp (ι := Nat) (fun i => (.d (instsD l) :: ay 2 (.own 5 ((l.take i).map instD) 0 :: i64 i :: ay 68 []))) (fun i => [.cap 86 5 i]) (fun i => i ≤ l.length) (fun i => l.length - i) 0 (Nat.zero_le _) (Ent.to ?_ rfl) ?_
  · skip
    exact wkA
  · intro i hi
    have hti : ((l.take i).map instD).length = i := by rw [List.length_map, List.length_take]; omega
    by_cases hlt : i < l.length
    · have hx := gdS hlt InstS.zero
      have hxs := hs _ (List.mem_of_getElem? hx)
      have htm := takeS_map instD l i hlt InstS.zero
      repeat' (first | exact absurd hb Bool.false_ne_true | exact absurd hb.symm Bool.false_ne_true | refine W.seq ?_ | refine W.block ?_ | (refine rgx [7] [] ?_; intro K hK) | (refine drx [7] [] ?_; intro K hK) | refine oq ?_ | refine sk ?_ | (refine nk hK ?_; clear hK K) | (refine nd hK ?_; clear hK K) | refine sp ?_ | refine ex ?_ | (refine gs (fun hb => ?_) (fun hb => ?_) <;> replace hb := nb hb <;> try exact noB hb) | (refine cd (fun hb => ?_) (fun hb => ?_) <;> replace hb := nb hb <;> try exact noB hb) | (with_reducible refine Exists.intro _ (And.intro rfl ?_)) | ((with_reducible refine And.intro ?_ ?_); (focus exact sdA)) | fail)
      refine W.ent (Ent.more 1) ?_
      refine W.ent (Ent.nilOwnC (i := 2) (j := 1) (q := 2) (e := 152) (us := [i64 (l.getD i InstS.zero).kind, i64 (l.getD i InstS.zero).x, i64 (l.getD i InstS.zero).y, bool (l.getD i InstS.zero).not, .own 2 [] 2]) rfl rfl (by decide) ?_) ?_
      · skip
        repeat' (first | exact NoL.nil | refine NoL.own ?_ | refine NoL.cons ?_ ?_ | exact Wk.any | exact Wk.rfl)
      refine W.lp (ι := Nat) (fun k => (.d (instsD l) :: ay 2 (.own 5 ((l.take i).map instD) 0 :: i64 i :: .ptr 1 0 :: i64 k :: ay 66 []))) (fun k => [.cap 86 5 i, .cells 86 [i64 (l.getD i InstS.zero).kind, i64 (l.getD i InstS.zero).x, i64 (l.getD i InstS.zero).y, bool (l.getD i InstS.zero).not, .own 2 (((l.getD i InstS.zero).spans.take k).map spanD) 2], .cap 152 2 k]) (fun k => k ≤ (l.getD i InstS.zero).spans.length) (fun k => (l.getD i InstS.zero).spans.length - k) 0 (Nat.zero_le _) (Ent.to ?_ rfl) ?_
      · skip
        exact wkA
      · intro k hk
        have htk : (((l.getD i InstS.zero).spans.take k).map spanD).length = k := by rw [List.length_map, List.length_take]; omega
        by_cases hkl : k < (l.getD i InstS.zero).spans.length
        · have hy := takeS_map spanD (l.getD i InstS.zero).spans k hkl SpanS.zero
          repeat' (first | exact absurd hb Bool.false_ne_true | exact absurd hb.symm Bool.false_ne_true | refine W.seq ?_ | refine W.block ?_ | (refine rg [] ?_; intro K hK) | (refine dr [] ?_; intro K hK) | refine oq ?_ | refine sk ?_ | (refine nk hK ?_; clear hK K) | (refine nd hK ?_; clear hK K) | refine sp ?_ | refine ex ?_ | (refine gs (fun hb => ?_) (fun hb => ?_) <;> replace hb := nb hb <;> try exact noB hb) | (refine cd (fun hb => ?_) (fun hb => ?_) <;> replace hb := nb hb <;> try exact noB hb) | (with_reducible refine Exists.intro _ (And.intro rfl ?_)) | ((with_reducible refine And.intro ?_ ?_); (focus exact sdA)) | fail)
          rw [hy]
          refine nx (k + 1) (by omega) (by omega) (sb [0, 1, 2] _ _ (hf := ?_))
          exact wkA
        · have e : (l.getD i InstS.zero).spans.take k = (l.getD i InstS.zero).spans := List.take_of_length_le (by omega)
          repeat' (first | exact absurd hb Bool.false_ne_true | exact absurd hb.symm Bool.false_ne_true | refine W.seq ?_ | refine W.block ?_ | (refine rg [] ?_; intro K hK) | (refine dr [] ?_; intro K hK) | refine oq ?_ | refine sk ?_ | (refine nk hK ?_; clear hK K) | (refine nd hK ?_; clear hK K) | refine sp ?_ | refine ex ?_ | (refine gs (fun hb => ?_) (fun hb => ?_) <;> replace hb := nb hb <;> try exact noB hb) | (refine cd (fun hb => ?_) (fun hb => ?_) <;> replace hb := nb hb <;> try exact noB hb) | (with_reducible refine Exists.intro _ (And.intro rfl ?_)) | ((with_reducible refine And.intro ?_ ?_); (focus exact sdA)) | fail)
          rw [e, htm]
          refine nx (i + 1) (by omega) (by omega) (sb [0] _ _ (hf := ?_))
          exact wkA
    · rw [List.take_of_length_le (by omega)]
      repeat' (first | exact absurd hb Bool.false_ne_true | exact absurd hb.symm Bool.false_ne_true | refine W.seq ?_ | refine W.block ?_ | (refine rg [] ?_; intro K hK) | (refine dr [] ?_; intro K hK) | refine oq ?_ | refine sk ?_ | (refine nk hK ?_; clear hK K) | (refine nd hK ?_; clear hK K) | refine sp ?_ | refine ex ?_ | (refine gs (fun hb => ?_) (fun hb => ?_) <;> replace hb := nb hb <;> try exact noB hb) | (refine cd (fun hb => ?_) (fun hb => ?_) <;> replace hb := nb hb <;> try exact noB hb) | (with_reducible refine Exists.intro _ (And.intro rfl ?_)) | ((with_reducible refine And.intro ?_ ?_); (focus exact sdA)) | fail)
      all_goals (refine rt ?_; refine fin ?_; exact wqA)
set_option maxHeartbeats 4000000 in
theorem nfew_fn (l : List OpS) : Fn Try.prog 32 [.d (opsD l)] [] (bool (l.all (fun o => decide (o.spans.length ≤ 60)) && decide (l.length ≤ 400))) [] := by
  refine en Try.func32 (hfr := by (simp only [Try.ntmps32, go_sem, Nat.reduceSub, Nat.reduceAdd]; rfl)) ?_
  refine W.le (s := 0) rfl fun hm => ?_
  rw [List.length_map] at hm
  repeat' (first | exact absurd hb Bool.false_ne_true | exact absurd hb.symm Bool.false_ne_true | refine W.seq ?_ | refine W.block ?_ | (refine rgx [2] [] ?_; intro K hK) | (refine drx [2] [] ?_; intro K hK) | refine oq ?_ | refine sk ?_ | (refine nk hK ?_; clear hK K) | (refine nd hK ?_; clear hK K) | refine sp ?_ | refine ex ?_ | (refine gs (fun hb => ?_) (fun hb => ?_) <;> replace hb := nb hb <;> try exact noB hb) | (refine cd (fun hb => ?_) (fun hb => ?_) <;> replace hb := nb hb <;> try exact noB hb) | (with_reducible refine Exists.intro _ (And.intro rfl ?_)) | ((with_reducible refine And.intro ?_ ?_); (focus exact sdA)) | fail)
  refine W.lp (ι := Nat) (fun i => (.d (opsD l) :: ay 1 (bool false :: i64 i :: ay 16 []))) (fun _ => []) (fun i => i ≤ l.length ∧ (l.take i).all (fun o => decide (o.spans.length ≤ 60)) = true) (fun i => l.length - i) 0 ⟨Nat.zero_le _, rfl⟩ (Ent.to ?_ rfl) ?_
  · skip
    exact wkA
  · rintro i ⟨hi, ha⟩
    by_cases hlt : i < l.length
    · have hx := gdS hlt OpS.zero
      by_cases hp : (l.getD i OpS.zero).spans.length ≤ 60
      · have h3 := allT ha hx (decide_eq_true hp)
        repeat' (first | exact absurd hb Bool.false_ne_true | exact absurd hb.symm Bool.false_ne_true | refine W.seq ?_ | refine W.block ?_ | (refine rg [] ?_; intro K hK) | (refine dr [] ?_; intro K hK) | refine oq ?_ | refine sk ?_ | (refine nk hK ?_; clear hK K) | (refine nd hK ?_; clear hK K) | refine sp ?_ | refine ex ?_ | (refine gs (fun hb => ?_) (fun hb => ?_) <;> replace hb := nb hb <;> try exact noB hb) | (refine cd (fun hb => ?_) (fun hb => ?_) <;> replace hb := nb hb <;> try exact noB hb) | (with_reducible refine Exists.intro _ (And.intro rfl ?_)) | ((with_reducible refine And.intro ?_ ?_); (focus exact sdA)) | fail)
        refine nx (i + 1) ⟨by omega, h3⟩ (by omega) (Ent.to ?_ rfl)
        exact wkA
      · rw [allF hx (decide_eq_false hp), Bool.false_and]
        repeat' (first | exact absurd hb Bool.false_ne_true | exact absurd hb.symm Bool.false_ne_true | refine W.seq ?_ | refine W.block ?_ | (refine rg [] ?_; intro K hK) | (refine dr [] ?_; intro K hK) | refine oq ?_ | refine sk ?_ | (refine nk hK ?_; clear hK K) | (refine nd hK ?_; clear hK K) | refine sp ?_ | refine ex ?_ | (refine gs (fun hb => ?_) (fun hb => ?_) <;> replace hb := nb hb <;> try exact noB hb) | (refine cd (fun hb => ?_) (fun hb => ?_) <;> replace hb := nb hb <;> try exact noB hb) | (with_reducible refine Exists.intro _ (And.intro rfl ?_)) | ((with_reducible refine And.intro ?_ ?_); (focus exact sdA)) | fail)
        all_goals (refine rt ?_; refine fin ?_; exact wqA)
    · rw [List.take_of_length_le (by omega)] at ha
      rw [ha, Bool.true_and]
      repeat' (first | exact absurd hb Bool.false_ne_true | exact absurd hb.symm Bool.false_ne_true | refine W.seq ?_ | refine W.block ?_ | (refine rg [] ?_; intro K hK) | (refine dr [] ?_; intro K hK) | refine oq ?_ | refine sk ?_ | (refine nk hK ?_; clear hK K) | (refine nd hK ?_; clear hK K) | refine sp ?_ | refine ex ?_ | (refine gs (fun hb => ?_) (fun hb => ?_) <;> replace hb := nb hb <;> try exact noB hb) | (refine cd (fun hb => ?_) (fun hb => ?_) <;> replace hb := nb hb <;> try exact noB hb) | (with_reducible refine Exists.intro _ (And.intro rfl ?_)) | ((with_reducible refine And.intro ?_ ?_); (focus exact sdA)) | fail)
      refine rt ?_
      refine fin ?_
      refine Wk.bool ?_
      rw [Bool.eq_iff_iff]
      simp only [decide_eq_true_eq]
      omega
end Go.Proofs.Ytgebfcdcpmmgnaa.Vs
