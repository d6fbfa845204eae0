/- instructions: whether one takes a byte. -/
import Derived.Test.YtgebfcdcpmmgnaaVsXa
set_option linter.unusedVariables false
set_option linter.unusedSimpArgs false
namespace Go.Proofs.Ytgebfcdcpmmgnaa.Vs
open Go.RowKit
set_option maxRecDepth 100000
structure SpanS where
  lo : UInt8
  hi : UInt8
deriving DecidableEq
structure InstS where
  kind : Int
  x : Int
  y : Int
  not : Bool
  spans : List SpanS
deriving DecidableEq
abbrev spanD (s : SpanS) : D := .agg [u8 s.lo, u8 s.hi]
abbrev spansD (l : List SpanS) : D := .sl 2 (l.map spanD)
abbrev instD (x : InstS) : D := .agg [.int .i64 x.kind, .int .i64 x.x, .int .i64 x.y, .bool x.not, spansD x.spans]
abbrev instsD (l : List InstS) : D := .sl 5 (l.map instD)
abbrev InstS.cells (x : InstS) : List V := [i64 x.kind, i64 x.x, i64 x.y, bool x.not, .d (spansD x.spans)]
abbrev InstS.v (x : InstS) : V := .agg x.cells
def SpanS.zero : SpanS := ⟨0, 0⟩
def InstS.zero : InstS := ⟨0, 0, 0, false, []⟩
@[go_sem] theorem gd_span (l : List SpanS) (n : Nat) : (l.map spanD).getD n (.agg [.int .u8 0, .int .u8 0]) = spanD (l.getD n SpanS.zero) := gd_map spanD l n SpanS.zero
@[go_sem] theorem gd_inst (l : List InstS) (n : Nat) : (l.map instD).getD n (.agg [.int .i64 0, .int .i64 0, .int .i64 0, .bool false, .sl 2 []]) = instD (l.getD n InstS.zero) := gd_map instD l n InstS.zero
def inSpan (c : UInt8) (s : SpanS) : Bool := decide (s.lo.toNat ≤ c.toNat ∧ c.toNat ≤ s.hi.toNat)
/-- Does an instruction take a byte? -/
def InstS.has (x : InstS) (c : UInt8) : Bool := if x.spans.any (inSpan c) then !x.not else x.not
set_option maxHeartbeats 2000000 in
theorem has_fn (x : InstS) (c : UInt8) : Fn Try.prog 39 [x.v, .d (u8 c)] [] (bool (x.has c)) [] := by
  refine en Try.func39 (hfr := by (simp only [Try.ntmps39, go_sem, Nat.reduceSub, Nat.reduceAdd]; rfl)) ?_
  repeat' (first | exact absurd hb Bool.false_ne_true | exact absurd hb.symm Bool.false_ne_true | refine W.seq ?_ | refine W.block ?_ | (refine rgx [1] [] ?_; intro K hK) | (refine drx [1] [] ?_; intro K hK) | refine oq ?_ | refine sk ?_ | (refine nk hK ?_; clear hK K) | (refine nd hK ?_; clear hK K) | refine sp ?_ | refine ex ?_ | (refine gs (fun hb => ?_) (fun hb => ?_) <;> replace hb := nb hb <;> try exact noB hb) | (refine cd (fun hb => ?_) (fun hb => ?_) <;> replace hb := nb hb <;> try exact noB hb) | (with_reducible refine Exists.intro _ (And.intro rfl ?_)) | ((with_reducible refine And.intro ?_ ?_); (focus exact sdA)) | fail)
  refine W.leC (i := 0) (j := 4) rfl rfl fun hm => ?_
  rw [List.length_map] at hm
  repeat' (first | exact absurd hb Bool.false_ne_true | exact absurd hb.symm Bool.false_ne_true | refine W.seq ?_ | refine W.block ?_ | (refine rgx [2] [] ?_; intro K hK) | (refine drx [2] [] ?_; intro K hK) | refine oq ?_ | refine sk ?_ | (refine nk hK ?_; clear hK K) | (refine nd hK ?_; clear hK K) | refine sp ?_ | refine ex ?_ | (refine gs (fun hb => ?_) (fun hb => ?_) <;> replace hb := nb hb <;> try exact noB hb) | (refine cd (fun hb => ?_) (fun hb => ?_) <;> replace hb := nb hb <;> try exact noB hb) | (with_reducible refine Exists.intro _ (And.intro rfl ?_)) | ((with_reducible refine And.intro ?_ ?_); (focus exact sdA)) | fail)
  refine W.lp (ι := Nat) (fun i => (ay 1 (.d (u8 c) :: .ptr 0 0 :: ay 1 (bool false :: ay 3 (.d (spansD x.spans) :: i64 x.spans.length :: i64 i :: ay 19 []))))) (fun _ => [.cells 81 x.cells]) (fun i => i ≤ x.spans.length ∧ (x.spans.take i).all (fun s => !inSpan c s) = true) (fun i => x.spans.length - i) 0 ⟨Nat.zero_le _, rfl⟩ (Ent.to ?_ rfl) ?_
  · skip
    exact wkA
  · rintro i ⟨hi, ha⟩
    by_cases hlt : i < x.spans.length
    · have hx := gdS hlt SpanS.zero
      by_cases hp : (x.spans.getD i SpanS.zero).lo.toNat ≤ c.toNat ∧ c.toNat ≤ (x.spans.getD i SpanS.zero).hi.toNat
      · have hh : x.has c = !x.not := by
          unfold InstS.has
          rw [if_pos (List.any_eq_true.2 ⟨_, List.mem_of_getElem? hx, decide_eq_true hp⟩)]
        obtain ⟨h1, h2⟩ := hp
        rw [hh]
        repeat' (first | exact absurd hb Bool.false_ne_true | exact absurd hb.symm Bool.false_ne_true | refine W.seq ?_ | refine W.block ?_ | (refine rg [] ?_; intro K hK) | (refine dr [] ?_; intro K hK) | refine oq ?_ | refine sk ?_ | (refine nk hK ?_; clear hK K) | (refine nd hK ?_; clear hK K) | refine sp ?_ | refine ex ?_ | (refine gs (fun hb => ?_) (fun hb => ?_) <;> replace hb := nb hb <;> try exact noB hb) | (refine cd (fun hb => ?_) (fun hb => ?_) <;> replace hb := nb hb <;> try exact noB hb) | (with_reducible refine Exists.intro _ (And.intro rfl ?_)) | ((with_reducible refine And.intro ?_ ?_); (focus exact sdA)) | fail)
        all_goals (refine rt ?_; refine fin ?_; exact wqA)
      · have h3 := allT ha hx (by unfold inSpan; rw [decide_eq_false hp]; rfl)
        repeat' (first | exact absurd hb Bool.false_ne_true | exact absurd hb.symm Bool.false_ne_true | refine W.seq ?_ | refine W.block ?_ | (refine rg [] ?_; intro K hK) | (refine dr [] ?_; intro K hK) | refine oq ?_ | refine sk ?_ | (refine nk hK ?_; clear hK K) | (refine nd hK ?_; clear hK K) | refine sp ?_ | refine ex ?_ | (refine gs (fun hb => ?_) (fun hb => ?_) <;> replace hb := nb hb <;> try exact noB hb) | (refine cd (fun hb => ?_) (fun hb => ?_) <;> replace hb := nb hb <;> try exact noB hb) | (with_reducible refine Exists.intro _ (And.intro rfl ?_)) | ((with_reducible refine And.intro ?_ ?_); (focus exact sdA)) | fail)
        all_goals (refine nx (i + 1) ⟨by omega, h3⟩ (by omega) (sb [0] _ _ (hf := ?_)); exact wkA)
    · rw [List.take_of_length_le (by omega)] at ha
      have hh : x.has c = x.not := by
        unfold InstS.has
        rw [if_neg (fun h => by obtain ⟨s, hs, k⟩ := List.any_eq_true.1 h; have := List.all_eq_true.1 ha s hs; rw [k] at this; cases this)]
      rw [hh]
      repeat' (first | exact absurd hb Bool.false_ne_true | exact absurd hb.symm Bool.false_ne_true | refine W.seq ?_ | refine W.block ?_ | (refine rg [] ?_; intro K hK) | (refine dr [] ?_; intro K hK) | refine oq ?_ | refine sk ?_ | (refine nk hK ?_; clear hK K) | (refine nd hK ?_; clear hK K) | refine sp ?_ | refine ex ?_ | (refine gs (fun hb => ?_) (fun hb => ?_) <;> replace hb := nb hb <;> try exact noB hb) | (refine cd (fun hb => ?_) (fun hb => ?_) <;> replace hb := nb hb <;> try exact noB hb) | (with_reducible refine Exists.intro _ (And.intro rfl ?_)) | ((with_reducible refine And.intro ?_ ?_); (focus exact sdA)) | fail)
      all_goals (refine rt ?_; refine fin ?_; exact wqA)
set_option maxHeartbeats 2000000 in
theorem xhas_fn (x : InstS) (c : UInt8) : Fn Try.prog 40 [x.v, .d (u8 c)] [] (bool (x.has c)) [] := by
  refine en Try.func40 (hfr := by (simp only [Try.ntmps40, go_sem, Nat.reduceSub, Nat.reduceAdd]; rfl)) ?_
  repeat' (first | exact absurd hb Bool.false_ne_true | exact absurd hb.symm Bool.false_ne_true | refine W.seq ?_ | refine W.block ?_ | (refine rgx [1] [] ?_; intro K hK) | (refine drx [1] [] ?_; intro K hK) | refine oq ?_ | refine sk ?_ | (refine nk hK ?_; clear hK K) | (refine nd hK ?_; clear hK K) | refine sp ?_ | refine ex ?_ | (refine gs (fun hb => ?_) (fun hb => ?_) <;> replace hb := nb hb <;> try exact noB hb) | (refine cd (fun hb => ?_) (fun hb => ?_) <;> replace hb := nb hb <;> try exact noB hb) | (with_reducible refine Exists.intro _ (And.intro rfl ?_)) | ((with_reducible refine And.intro ?_ ?_); (focus exact sdA)) | fail)
  refine W.leC (i := 0) (j := 4) rfl rfl fun hm => ?_
  rw [List.length_map] at hm
  repeat' (first | exact absurd hb Bool.false_ne_true | exact absurd hb.symm Bool.false_ne_true | refine W.seq ?_ | refine W.block ?_ | (refine rgx [3] [] ?_; intro K hK) | (refine drx [3] [] ?_; intro K hK) | refine oq ?_ | refine sk ?_ | (refine nk hK ?_; clear hK K) | (refine nd hK ?_; clear hK K) | refine sp ?_ | refine ex ?_ | (refine gs (fun hb => ?_) (fun hb => ?_) <;> replace hb := nb hb <;> try exact noB hb) | (refine cd (fun hb => ?_) (fun hb => ?_) <;> replace hb := nb hb <;> try exact noB hb) | (with_reducible refine Exists.intro _ (And.intro rfl ?_)) | ((with_reducible refine And.intro ?_ ?_); (focus exact sdA)) | fail)
  refine W.lp (ι := Nat) (fun i => (ay 1 (.d (u8 c) :: .ptr 0 0 :: ay 1 (bool false :: bool ((x.spans.take i).any (inSpan c)) :: i64 i :: ay 32 [])))) (fun _ => [.cells 86 x.cells]) (fun i => i ≤ x.spans.length) (fun i => x.spans.length - i) 0 (Nat.zero_le _) (Ent.to ?_ rfl) ?_
  · skip
    exact wkA
  · rintro i hi
    by_cases hlt : i < x.spans.length
    · have hs : (x.spans.take (i + 1)).any (inSpan c) = ((x.spans.take i).any (inSpan c) || inSpan c (x.spans.getD i SpanS.zero)) := by
        rw [List.take_add_one, gdS hlt SpanS.zero, List.any_append]
        simp
      repeat' (first | exact absurd hb Bool.false_ne_true | exact absurd hb.symm Bool.false_ne_true | refine W.seq ?_ | refine W.block ?_ | (refine rg [] ?_; intro K hK) | (refine dr [] ?_; intro K hK) | refine oq ?_ | refine sk ?_ | (refine nk hK ?_; clear hK K) | (refine nd hK ?_; clear hK K) | refine sp ?_ | refine ex ?_ | (refine gs (fun hb => ?_) (fun hb => ?_) <;> replace hb := nb hb <;> try exact noB hb) | (refine cd (fun hb => ?_) (fun hb => ?_) <;> replace hb := nb hb <;> try exact noB hb) | (with_reducible refine Exists.intro _ (And.intro rfl ?_)) | ((with_reducible refine And.intro ?_ ?_); (focus exact sdA)) | fail)
      · refine nx (i + 1) (by omega) (by omega) (Ent.to ?_ rfl)
        rw [show decide ((c.toNat : Int) ≤ ((x.spans.getD i SpanS.zero).hi.toNat : Int)) = (x.spans.take (i + 1)).any (inSpan c) by
          rw [hs, show (x.spans.take i).any (inSpan c) = false from ‹_›, Bool.false_or]
          unfold inSpan
          rw [Bool.eq_iff_iff]
          simp only [decide_eq_true_eq]
          omega]
        exact wkA
      · refine nx (i + 1) (by omega) (by omega) (Ent.to ?_ rfl)
        rw [show (V.d (.bool false)) = bool ((x.spans.take (i + 1)).any (inSpan c)) by
          rw [hs, show (x.spans.take i).any (inSpan c) = false from ‹_›, Bool.false_or]
          unfold inSpan
          rw [decide_eq_false (by omega)]]
        exact wkA
      · refine nx (i + 1) (by omega) (by omega) (Ent.to ?_ rfl)
        rw [show (V.d (.bool true)) = bool ((x.spans.take (i + 1)).any (inSpan c)) by
          rw [hs, show (x.spans.take i).any (inSpan c) = true from ‹_›, Bool.true_or]]
        exact wkA
    · rw [List.take_of_length_le (by omega)]
      repeat' (first | exact absurd hb Bool.false_ne_true | exact absurd hb.symm Bool.false_ne_true | refine W.seq ?_ | refine W.block ?_ | (refine rg [] ?_; intro K hK) | (refine dr [] ?_; intro K hK) | refine oq ?_ | refine sk ?_ | (refine nk hK ?_; clear hK K) | (refine nd hK ?_; clear hK K) | refine sp ?_ | refine ex ?_ | (refine gs (fun hb => ?_) (fun hb => ?_) <;> replace hb := nb hb <;> try exact noB hb) | (refine cd (fun hb => ?_) (fun hb => ?_) <;> replace hb := nb hb <;> try exact noB hb) | (with_reducible refine Exists.intro _ (And.intro rfl ?_)) | ((with_reducible refine And.intro ?_ ?_); (focus exact sdA)) | fail)
      refine rt ?_
      refine fin ?_
      refine Wk.bool ?_
      unfold InstS.has
      cases x.spans.any (inSpan c) <;> cases x.not <;> rfl
end Go.Proofs.Ytgebfcdcpmmgnaa.Vs
