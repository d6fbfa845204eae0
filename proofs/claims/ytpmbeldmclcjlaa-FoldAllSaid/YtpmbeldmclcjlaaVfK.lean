/- folding: the two laws; folding: the laws, of what is handed in. -/
import Derived.Test.YtpmbeldmclcjlaaVfG
import Derived.Test.YtpmbeldmclcjlaaVrP
set_option linter.unusedVariables false
set_option linter.unusedSimpArgs false
namespace Go.Proofs.Ytpmbeldmclcjlaa.Vs
open Go.RowKit
set_option maxRecDepth 100000
set_option maxHeartbeats 4000000 in
theorem foldAll_fn (b : BookS) (l : List (List UInt8)) : Fn Try.prog 6 [b.v, texts l] [] (bool true) [] := by
  have ck := fknows_fn
  have cf := fewb_fn b
  have ct := tries_fn b
  by_cases h1 : fewB b = true
  · rw [h1] at cf
    by_cases h2 : triesB b = true
    · rw [h2] at ct
      have hB := few_ok h1 h2
      refine en Try.func6 (hfr := by (simp only [Try.ntmps6, go_sem, Nat.reduceSub, Nat.reduceAdd]; rfl)) ?_
      refine W.le (s := 1) rfl fun hm => ?_
      rw [List.length_map] at hm
      by_cases h3 : l.length ≤ 40
      · skip
        repeat' (first | exact absurd hb Bool.false_ne_true | exact absurd hb.symm Bool.false_ne_true | refine W.seq ?_ | refine W.block ?_ | (refine rgx [4] [] ?_; intro K hK) | (refine drx [4] [] ?_; intro K hK) | refine cl (cf) ?_ | refine cl (ct) ?_ | refine cl (ck) ?_ | refine oq ?_ | refine sk ?_ | (refine nk hK ?_; clear hK K) | (refine nd hK ?_; clear hK K) | refine sp ?_ | refine ex ?_ | (refine gs (fun hb => ?_) (fun hb => ?_) <;> replace hb := nb hb <;> try exact noB hb) | (refine cd (fun hb => ?_) (fun hb => ?_) <;> replace hb := nb hb <;> try exact noB hb) | (with_reducible refine Exists.intro _ (And.intro rfl ?_)) | ((with_reducible refine And.intro ?_ ?_); (focus exact sdA)) | fail)
        refine W.lp (ι := Nat) (fun i => (ay 1 (texts l :: .ptr 0 0 :: ay 1 (bool false :: i64 i :: ay 65 [])))) (fun _ => [.cells 25 b.cells]) (fun i => i ≤ l.length ∧ (l.take i).all (fun x => decide (x.length ≤ 1000)) = true) (fun i => l.length - i) 0 ⟨Nat.zero_le _, rfl⟩ (Ent.to ?_ rfl) ?_
        · skip
          exact wkA
        · rintro i ⟨hi, ha⟩
          by_cases hlt : i < l.length
          · have hx := gdS hlt ([] : List UInt8)
            by_cases hp : (l.getD i []).length ≤ 1000
            · have h4 := allT ha hx (decide_eq_true hp)
              repeat' (first | exact absurd hb Bool.false_ne_true | exact absurd hb.symm Bool.false_ne_true | refine W.seq ?_ | refine W.block ?_ | (refine rg [] ?_; intro K hK) | (refine dr [] ?_; intro K hK) | refine cl (ck) ?_ | refine oq ?_ | refine sk ?_ | (refine nk hK ?_; clear hK K) | (refine nd hK ?_; clear hK K) | refine sp ?_ | refine ex ?_ | (refine gs (fun hb => ?_) (fun hb => ?_) <;> replace hb := nb hb <;> try exact noB hb) | (refine cd (fun hb => ?_) (fun hb => ?_) <;> replace hb := nb hb <;> try exact noB hb) | (with_reducible refine Exists.intro _ (And.intro rfl ?_)) | ((with_reducible refine And.intro ?_ ?_); (focus exact sdA)) | fail)
              refine nx (i + 1) ⟨by omega, h4⟩ (by omega) (Ent.to ?_ rfl)
              exact wkA
            · skip
              repeat' (first | exact absurd hb Bool.false_ne_true | exact absurd hb.symm Bool.false_ne_true | refine W.seq ?_ | refine W.block ?_ | (refine rg [] ?_; intro K hK) | (refine dr [] ?_; intro K hK) | refine cl (ck) ?_ | refine oq ?_ | refine sk ?_ | (refine nk hK ?_; clear hK K) | (refine nd hK ?_; clear hK K) | refine sp ?_ | refine ex ?_ | (refine gs (fun hb => ?_) (fun hb => ?_) <;> replace hb := nb hb <;> try exact noB hb) | (refine cd (fun hb => ?_) (fun hb => ?_) <;> replace hb := nb hb <;> try exact noB hb) | (with_reducible refine Exists.intro _ (And.intro rfl ?_)) | ((with_reducible refine And.intro ?_ ?_); (focus exact sdA)) | fail)
              all_goals (refine rt ?_; refine fin ?_; exact wqA)
          · rw [List.take_of_length_le (by omega), List.all_eq_true] at ha
            have c1 := all_fn b l hB (fun x hx => of_decide_eq_true (ha x hx))
            have c2 := xall_fn b l hB
            have c3 := state_fn (allR b l) (allR b l)
            rw [decide_eq_true rfl] at c3
            cases hs : allS b l with
            | none =>
              rw [hs] at c1 c2
              have hz : allR b l = StS.zero := by unfold allR; rw [hs]; rfl
              rw [hz] at c1 c2 c3
              simp only [Option.isSome_none, Bool.false_eq_true, if_false] at c1 c2
              unfold StS.v at c1 c2 c3
              rw [show StS.zero.cells = [i64 0, i64 0, i64 0, i64 0, texts []] from rfl] at c1 c2 c3
              repeat' (first | exact absurd hb Bool.false_ne_true | exact absurd hb.symm Bool.false_ne_true | refine W.seq ?_ | refine W.block ?_ | (refine rg [] ?_; intro K hK) | (refine dr [] ?_; intro K hK) | refine cl (c1) ?_ | refine cl (c2) ?_ | refine cl (c3) ?_ | refine cl (ck) ?_ | refine oq ?_ | refine sk ?_ | (refine nk hK ?_; clear hK K) | (refine nd hK ?_; clear hK K) | refine sp ?_ | refine ex ?_ | (refine gs (fun hb => ?_) (fun hb => ?_) <;> replace hb := nb hb <;> try exact noB hb) | (refine cd (fun hb => ?_) (fun hb => ?_) <;> replace hb := nb hb <;> try exact noB hb) | (with_reducible refine Exists.intro _ (And.intro rfl ?_)) | ((with_reducible refine And.intro ?_ ?_); (focus exact sdA)) | fail)
              all_goals (refine rt ?_; refine fin ?_; exact wqA)
            | some s =>
              rw [hs] at c1 c2
              simp only [Option.isSome_some, if_true] at c1 c2
              repeat' (first | exact absurd hb Bool.false_ne_true | exact absurd hb.symm Bool.false_ne_true | refine W.seq ?_ | refine W.block ?_ | (refine rg [] ?_; intro K hK) | (refine dr [] ?_; intro K hK) | refine cl (c1) ?_ | refine cl (c2) ?_ | refine cl (c3) ?_ | refine cl (ck) ?_ | refine oq ?_ | refine sk ?_ | (refine nk hK ?_; clear hK K) | (refine nd hK ?_; clear hK K) | refine sp ?_ | refine ex ?_ | (refine gs (fun hb => ?_) (fun hb => ?_) <;> replace hb := nb hb <;> try exact noB hb) | (refine cd (fun hb => ?_) (fun hb => ?_) <;> replace hb := nb hb <;> try exact noB hb) | (with_reducible refine Exists.intro _ (And.intro rfl ?_)) | ((with_reducible refine And.intro ?_ ?_); (focus exact sdA)) | fail)
              all_goals (refine rt ?_; refine fin ?_; exact wqA)
      · skip
        repeat' (first | exact absurd hb Bool.false_ne_true | exact absurd hb.symm Bool.false_ne_true | refine W.seq ?_ | refine W.block ?_ | (refine rg [] ?_; intro K hK) | (refine dr [] ?_; intro K hK) | refine cl (cf) ?_ | refine cl (ct) ?_ | refine cl (ck) ?_ | refine oq ?_ | refine sk ?_ | (refine nk hK ?_; clear hK K) | (refine nd hK ?_; clear hK K) | refine sp ?_ | refine ex ?_ | (refine gs (fun hb => ?_) (fun hb => ?_) <;> replace hb := nb hb <;> try exact noB hb) | (refine cd (fun hb => ?_) (fun hb => ?_) <;> replace hb := nb hb <;> try exact noB hb) | (with_reducible refine Exists.intro _ (And.intro rfl ?_)) | ((with_reducible refine And.intro ?_ ?_); (focus exact sdA)) | fail)
        all_goals (refine rt ?_; refine fin ?_; exact wqA)
    · rw [Bool.not_eq_true] at h2
      rw [h2] at ct
      refine en Try.func6 (hfr := by (simp only [Try.ntmps6, go_sem, Nat.reduceSub, Nat.reduceAdd]; rfl)) ?_
      repeat' (first | exact absurd hb Bool.false_ne_true | exact absurd hb.symm Bool.false_ne_true | refine W.seq ?_ | refine W.block ?_ | (refine rg [] ?_; intro K hK) | (refine dr [] ?_; intro K hK) | refine cl (cf) ?_ | refine cl (ct) ?_ | refine cl (ck) ?_ | refine oq ?_ | refine sk ?_ | (refine nk hK ?_; clear hK K) | (refine nd hK ?_; clear hK K) | refine sp ?_ | refine ex ?_ | (refine gs (fun hb => ?_) (fun hb => ?_) <;> replace hb := nb hb <;> try exact noB hb) | (refine cd (fun hb => ?_) (fun hb => ?_) <;> replace hb := nb hb <;> try exact noB hb) | (with_reducible refine Exists.intro _ (And.intro rfl ?_)) | ((with_reducible refine And.intro ?_ ?_); (focus exact sdA)) | fail)
      all_goals (refine rt ?_; refine fin ?_; exact wqA)
  · rw [Bool.not_eq_true] at h1
    rw [h1] at cf
    refine en Try.func6 (hfr := by (simp only [Try.ntmps6, go_sem, Nat.reduceSub, Nat.reduceAdd]; rfl)) ?_
    repeat' (first | exact absurd hb Bool.false_ne_true | exact absurd hb.symm Bool.false_ne_true | refine W.seq ?_ | refine W.block ?_ | (refine rg [] ?_; intro K hK) | (refine dr [] ?_; intro K hK) | refine cl (cf) ?_ | refine cl (ct) ?_ | refine cl (ck) ?_ | refine oq ?_ | refine sk ?_ | (refine nk hK ?_; clear hK K) | (refine nd hK ?_; clear hK K) | refine sp ?_ | refine ex ?_ | (refine gs (fun hb => ?_) (fun hb => ?_) <;> replace hb := nb hb <;> try exact noB hb) | (refine cd (fun hb => ?_) (fun hb => ?_) <;> replace hb := nb hb <;> try exact noB hb) | (with_reducible refine Exists.intro _ (And.intro rfl ?_)) | ((with_reducible refine And.intro ?_ ?_); (focus exact sdA)) | fail)
    all_goals (refine rt ?_; refine fin ?_; exact wqA)
/-- A record, as one of a row. -/
abbrev recD (r : RecS) : D := .agg [.int .i64 r.kind, .int .i64 r.step, .int .i64 r.visit, .int .i64 r.tries, .int .i64 r.off, .sl 1 (r.vars.map dtext), .int .i64 r.vis, .int .i64 r.st, .int .i64 r.try', .int .i64 r.to, .int .i64 r.ofs, .int .i64 r.vr, dtext r.value]
abbrev recsD (l : List RecS) : D := .sl 13 (l.map recD)
@[go_sem] theorem gd_rec (l : List RecS) (n : Nat) : (l.map recD).getD n (.agg [.int .i64 0, .int .i64 0, .int .i64 0, .int .i64 0, .int .i64 0, .sl 1 [], .int .i64 0, .int .i64 0, .int .i64 0, .int .i64 0, .int .i64 0, .int .i64 0, .sl 1 []]) = recD (l.getD n RecS.zero) := gd_map recD l n RecS.zero
set_option maxHeartbeats 8000000 in
theorem foldRises_fn (b : BookS) (l : List RecS) : Fn Try.prog 3 [b.v, .d (recsD l)] [] (bool true) [] := by
  have ck := fknows_fn
  have cf := fewb_fn b
  have ct := tries_fn b
  by_cases h1 : fewB b = true
  · rw [h1] at cf
    by_cases h2 : triesB b = true
    · rw [h2] at ct
      have hB := few_ok h1 h2
      have hok := hB
      unfold BookS.ok at hok
      obtain ⟨k1, k2, k3, k4, _⟩ := hok
      have cs := start_fn b (by omega)
      refine en Try.func3 (hfr := by (simp only [Try.ntmps3, go_sem, Nat.reduceSub, Nat.reduceAdd]; rfl)) ?_
      refine W.le (s := 1) rfl fun hm => ?_
      rw [List.length_map] at hm
      by_cases h3 : l.length ≤ 60
      · skip
        repeat' (first | exact absurd hb Bool.false_ne_true | exact absurd hb.symm Bool.false_ne_true | refine W.seq ?_ | refine W.block ?_ | (refine rgx [5] [] ?_; intro K hK) | (refine drx [5] [] ?_; intro K hK) | refine cl (cf) ?_ | refine cl (ct) ?_ | refine cl (ck) ?_ | refine cl (cs) ?_ | refine oq ?_ | refine sk ?_ | (refine nk hK ?_; clear hK K) | (refine nd hK ?_; clear hK K) | refine sp ?_ | refine ex ?_ | (refine gs (fun hb => ?_) (fun hb => ?_) <;> replace hb := nb hb <;> try exact noB hb) | (refine cd (fun hb => ?_) (fun hb => ?_) <;> replace hb := nb hb <;> try exact noB hb) | (with_reducible refine Exists.intro _ (And.intro rfl ?_)) | ((with_reducible refine And.intro ?_ ?_); (focus exact sdA)) | fail)
        refine W.lp (ι := Nat × StS) (fun p => (ay 1 (.d (recsD l) :: .ptr 0 0 :: ay 1 (bool false :: .ptr 1 0 :: i64 p.1 :: ay 145 [])))) (fun p => [.cells 25 b.cells, .cells 31 p.2.cells]) (fun p => p.1 ≤ l.length) (fun p => l.length - p.1) (0, b.start) (Nat.zero_le _) (Ent.to ?_ rfl) ?_
        · skip
          exact wkA
        · rintro ⟨i, s⟩ hi
          simp only at hi
          simp only
          by_cases hlt : i < l.length
          · have cn := next_fn b s (l.getD i RecS.zero) hB
            have cw := fews_fn (l.getD i RecS.zero).state
            by_cases hv : (l.getD i RecS.zero).value.length ≤ 300 ∧ fewSB (l.getD i RecS.zero).state = true
            · obtain ⟨hv1, hv2⟩ := hv
              rw [hv2] at cw
              by_cases hn : nextOK b s (l.getD i RecS.zero)
              · obtain ⟨hr, h0, hm2, hvis, hkk⟩ := hn
                obtain ⟨l3, l4, l5, l6⟩ := right_tries hB hr h0
                have hn : nextOK b s (l.getD i RecS.zero) := ⟨hr, h0, hm2, hvis, hkk⟩
                have hat : -1000000 ≤ (b.steps.getD s.step.toNat StepS.zero).tr ∧ (b.steps.getD s.step.toNat StepS.zero).tr ≤ 1000000 := b.ok_at hB s.step
                rw [if_pos hn, show nextS b s (l.getD i RecS.zero) = nextT b s (l.getD i RecS.zero) from if_pos hn] at cn
                unfold nextT at cn
                rcases hkk with ⟨hk, hi1, hi2, hi3⟩ | ⟨hk, ho1, ho2, ho3, ho4⟩
                · rw [if_pos hk] at cn
                  have cn : Fn Try.prog 20 [b.v, s.v, (l.getD i RecS.zero).v] [] (.tup [.agg [i64 s.step, i64 s.visit, i64 (s.tries + 1), i64 s.off, texts s.vars], i64 0]) [] := cn
                  have hi4 : s.tries + 1 ≤ (b.steps.getD s.step.toNat StepS.zero).tr + 1 := by unfold BookS.at at hi3; omega
                  clear hr hm2 hn hi1 hi2 hi3
                  repeat' (first | exact absurd hb Bool.false_ne_true | exact absurd hb.symm Bool.false_ne_true | refine W.seq ?_ | refine W.block ?_ | (refine rg [] ?_; intro K hK) | (refine dr [] ?_; intro K hK) | refine cl (cn) ?_ | refine cl (cw) ?_ | refine cl (ck) ?_ | refine oq ?_ | refine sk ?_ | (refine nk hK ?_; clear hK K) | (refine nd hK ?_; clear hK K) | refine sp ?_ | refine ex ?_ | (refine gs (fun hb => ?_) (fun hb => ?_) <;> replace hb := nb hb <;> try exact noB hb) | (refine cd (fun hb => ?_) (fun hb => ?_) <;> replace hb := nb hb <;> try exact noB hb) | (with_reducible refine Exists.intro _ (And.intro rfl ?_)) | ((with_reducible refine And.intro ?_ ?_); (focus exact sdA)) | fail)
                  refine nx (i + 1, s.tried) (by simp only; omega) (by simp only; omega) (sb [0, 1] _ _ (hf := ?_))
                  exact wkA
                · have hk2 : ¬ (l.getD i RecS.zero).kind = 2 := by omega
                  rw [if_neg hk2] at cn
                  have ho5 : s.off ≤ (l.getD i RecS.zero).ofs := by
                    rcases ho4 with h | h
                    · have := h.1; omega
                    · exact h.2
                  have cn : Fn Try.prog 20 [b.v, s.v, (l.getD i RecS.zero).v] [] (.tup [.agg [i64 (s.went b (l.getD i RecS.zero)).step, i64 (s.visit + 1), i64 0, i64 (l.getD i RecS.zero).ofs, texts (s.went b (l.getD i RecS.zero)).vars], i64 0]) [] := cn
                  clear hr hm2 hn ho2 ho3 ho4
                  repeat' (first | exact absurd hb Bool.false_ne_true | exact absurd hb.symm Bool.false_ne_true | refine W.seq ?_ | refine W.block ?_ | (refine rg [] ?_; intro K hK) | (refine dr [] ?_; intro K hK) | refine cl (cn) ?_ | refine cl (cw) ?_ | refine cl (ck) ?_ | refine oq ?_ | refine sk ?_ | (refine nk hK ?_; clear hK K) | (refine nd hK ?_; clear hK K) | refine sp ?_ | refine ex ?_ | (refine gs (fun hb => ?_) (fun hb => ?_) <;> replace hb := nb hb <;> try exact noB hb) | (refine cd (fun hb => ?_) (fun hb => ?_) <;> replace hb := nb hb <;> try exact noB hb) | (with_reducible refine Exists.intro _ (And.intro rfl ?_)) | ((with_reducible refine And.intro ?_ ?_); (focus exact sdA)) | fail)
                  refine nx (i + 1, s.went b (l.getD i RecS.zero)) (by simp only; omega) (by simp only; omega) (sb [0, 1] _ _ (hf := ?_))
                  exact wkA
              · rw [if_neg hn] at cn
                repeat' (first | exact absurd hb Bool.false_ne_true | exact absurd hb.symm Bool.false_ne_true | refine W.seq ?_ | refine W.block ?_ | (refine rg [] ?_; intro K hK) | (refine dr [] ?_; intro K hK) | refine cl (cn) ?_ | refine cl (cw) ?_ | refine cl (ck) ?_ | refine oq ?_ | refine sk ?_ | (refine nk hK ?_; clear hK K) | (refine nd hK ?_; clear hK K) | refine sp ?_ | refine ex ?_ | (refine gs (fun hb => ?_) (fun hb => ?_) <;> replace hb := nb hb <;> try exact noB hb) | (refine cd (fun hb => ?_) (fun hb => ?_) <;> replace hb := nb hb <;> try exact noB hb) | (with_reducible refine Exists.intro _ (And.intro rfl ?_)) | ((with_reducible refine And.intro ?_ ?_); (focus exact sdA)) | fail)
                refine nx (i + 1, s) (by simp only; omega) (by simp only; omega) (sb [0, 1] _ _ (hf := ?_))
                exact wkA
            · by_cases hv1 : (l.getD i RecS.zero).value.length ≤ 300
              · rw [show fewSB (l.getD i RecS.zero).state = false by rw [← Bool.not_eq_true]; exact fun h => hv ⟨hv1, h⟩] at cw
                repeat' (first | exact absurd hb Bool.false_ne_true | exact absurd hb.symm Bool.false_ne_true | refine W.seq ?_ | refine W.block ?_ | (refine rg [] ?_; intro K hK) | (refine dr [] ?_; intro K hK) | refine cl (cw) ?_ | refine cl (ck) ?_ | refine oq ?_ | refine sk ?_ | (refine nk hK ?_; clear hK K) | (refine nd hK ?_; clear hK K) | refine sp ?_ | refine ex ?_ | (refine gs (fun hb => ?_) (fun hb => ?_) <;> replace hb := nb hb <;> try exact noB hb) | (refine cd (fun hb => ?_) (fun hb => ?_) <;> replace hb := nb hb <;> try exact noB hb) | (with_reducible refine Exists.intro _ (And.intro rfl ?_)) | ((with_reducible refine And.intro ?_ ?_); (focus exact sdA)) | fail)
                all_goals (refine rt ?_; refine fin ?_; exact wqA)
              · skip
                repeat' (first | exact absurd hb Bool.false_ne_true | exact absurd hb.symm Bool.false_ne_true | refine W.seq ?_ | refine W.block ?_ | (refine rg [] ?_; intro K hK) | (refine dr [] ?_; intro K hK) | refine cl (cw) ?_ | refine cl (ck) ?_ | refine oq ?_ | refine sk ?_ | (refine nk hK ?_; clear hK K) | (refine nd hK ?_; clear hK K) | refine sp ?_ | refine ex ?_ | (refine gs (fun hb => ?_) (fun hb => ?_) <;> replace hb := nb hb <;> try exact noB hb) | (refine cd (fun hb => ?_) (fun hb => ?_) <;> replace hb := nb hb <;> try exact noB hb) | (with_reducible refine Exists.intro _ (And.intro rfl ?_)) | ((with_reducible refine And.intro ?_ ?_); (focus exact sdA)) | fail)
                all_goals (refine rt ?_; refine fin ?_; exact wqA)
          · skip
            repeat' (first | exact absurd hb Bool.false_ne_true | exact absurd hb.symm Bool.false_ne_true | refine W.seq ?_ | refine W.block ?_ | (refine rg [] ?_; intro K hK) | (refine dr [] ?_; intro K hK) | refine cl (ck) ?_ | refine oq ?_ | refine sk ?_ | (refine nk hK ?_; clear hK K) | (refine nd hK ?_; clear hK K) | refine sp ?_ | refine ex ?_ | (refine gs (fun hb => ?_) (fun hb => ?_) <;> replace hb := nb hb <;> try exact noB hb) | (refine cd (fun hb => ?_) (fun hb => ?_) <;> replace hb := nb hb <;> try exact noB hb) | (with_reducible refine Exists.intro _ (And.intro rfl ?_)) | ((with_reducible refine And.intro ?_ ?_); (focus exact sdA)) | fail)
            all_goals (refine rt ?_; refine fin ?_; exact wqA)
      · skip
        repeat' (first | exact absurd hb Bool.false_ne_true | exact absurd hb.symm Bool.false_ne_true | refine W.seq ?_ | refine W.block ?_ | (refine rg [] ?_; intro K hK) | (refine dr [] ?_; intro K hK) | refine cl (cf) ?_ | refine cl (ct) ?_ | refine cl (ck) ?_ | refine oq ?_ | refine sk ?_ | (refine nk hK ?_; clear hK K) | (refine nd hK ?_; clear hK K) | refine sp ?_ | refine ex ?_ | (refine gs (fun hb => ?_) (fun hb => ?_) <;> replace hb := nb hb <;> try exact noB hb) | (refine cd (fun hb => ?_) (fun hb => ?_) <;> replace hb := nb hb <;> try exact noB hb) | (with_reducible refine Exists.intro _ (And.intro rfl ?_)) | ((with_reducible refine And.intro ?_ ?_); (focus exact sdA)) | fail)
        all_goals (refine rt ?_; refine fin ?_; exact wqA)
    · rw [Bool.not_eq_true] at h2
      rw [h2] at ct
      refine en Try.func3 (hfr := by (simp only [Try.ntmps3, go_sem, Nat.reduceSub, Nat.reduceAdd]; rfl)) ?_
      repeat' (first | exact absurd hb Bool.false_ne_true | exact absurd hb.symm Bool.false_ne_true | refine W.seq ?_ | refine W.block ?_ | (refine rg [] ?_; intro K hK) | (refine dr [] ?_; intro K hK) | refine cl (cf) ?_ | refine cl (ct) ?_ | refine cl (ck) ?_ | refine oq ?_ | refine sk ?_ | (refine nk hK ?_; clear hK K) | (refine nd hK ?_; clear hK K) | refine sp ?_ | refine ex ?_ | (refine gs (fun hb => ?_) (fun hb => ?_) <;> replace hb := nb hb <;> try exact noB hb) | (refine cd (fun hb => ?_) (fun hb => ?_) <;> replace hb := nb hb <;> try exact noB hb) | (with_reducible refine Exists.intro _ (And.intro rfl ?_)) | ((with_reducible refine And.intro ?_ ?_); (focus exact sdA)) | fail)
      all_goals (refine rt ?_; refine fin ?_; exact wqA)
  · rw [Bool.not_eq_true] at h1
    rw [h1] at cf
    refine en Try.func3 (hfr := by (simp only [Try.ntmps3, go_sem, Nat.reduceSub, Nat.reduceAdd]; rfl)) ?_
    repeat' (first | exact absurd hb Bool.false_ne_true | exact absurd hb.symm Bool.false_ne_true | refine W.seq ?_ | refine W.block ?_ | (refine rg [] ?_; intro K hK) | (refine dr [] ?_; intro K hK) | refine cl (cf) ?_ | refine cl (ct) ?_ | refine cl (ck) ?_ | refine oq ?_ | refine sk ?_ | (refine nk hK ?_; clear hK K) | (refine nd hK ?_; clear hK K) | refine sp ?_ | refine ex ?_ | (refine gs (fun hb => ?_) (fun hb => ?_) <;> replace hb := nb hb <;> try exact noB hb) | (refine cd (fun hb => ?_) (fun hb => ?_) <;> replace hb := nb hb <;> try exact noB hb) | (with_reducible refine Exists.intro _ (And.intro rfl ?_)) | ((with_reducible refine And.intro ?_ ?_); (focus exact sdA)) | fail)
    all_goals (refine rt ?_; refine fin ?_; exact wqA)
/-- Books as they are handed in. -/
abbrev ArmA := List UInt8 × IntA × IntA
abbrev StepA := List UInt8 × IntA × List UInt8 × List ArmA × IntA × IntA × IntA
abbrev BookA := List StepA × List (List UInt8) × IntA
def armOf (x : ArmA) : ArmS := ⟨x.1, x.2.1.1, x.2.2.1⟩
def stepOf (x : StepA) : StepS := ⟨x.1, x.2.1.1, x.2.2.1, x.2.2.2.1.map armOf, x.2.2.2.2.1.1, x.2.2.2.2.2.1.1, x.2.2.2.2.2.2.1⟩
def bookOf (x : BookA) : BookS := ⟨x.1.map stepOf, x.2.1, x.2.2.1⟩
def recOf (x : RecA) : RecS := ⟨x.1.1, x.2.1.1.1, x.2.1.2.1.1, x.2.1.2.2.1.1, x.2.1.2.2.2.1.1, x.2.1.2.2.2.2, x.2.2.1.1, x.2.2.2.1.1, x.2.2.2.2.1.1, x.2.2.2.2.2.1.1, x.2.2.2.2.2.2.1.1, x.2.2.2.2.2.2.2.1.1, x.2.2.2.2.2.2.2.2⟩
theorem fd_string {t : TypeId} (h : t = 9) : FD Try.prog t 1 (fun s : List UInt8 => [.str s]) := by subst h; exact fd_str Try.underlying9 (by kernel_rfl)
theorem fd_names {t : TypeId} (h : t = 23) : FD Try.prog t 1 (fun l : List (List UInt8) => [.sl 1 (l.map D.str)]) := by subst h; exact fd_sl1 Try.underlying23 (by kernel_rfl) (fd_string rfl)
theorem fd_arm {t : TypeId} (h : t = 130) : FD Try.prog t (1 + (1 + 1)) (fun x : ArmA => [dtext x.1, .int .i64 x.2.1.1, .int .i64 x.2.2.1]) := by
  subst h
  exact fd_struct Try.underlying130 (by kernel_rfl) (by decide) (.cons rfl (fd_bytes rfl) (.cons rfl (fd_i64 rfl) (.one rfl (fd_i64 rfl))))
theorem fd_arms {t : TypeId} (h : t = 40) : FD Try.prog t 1 (fun l : List ArmA => [.sl 3 (l.map fun x => .agg [dtext x.1, .int .i64 x.2.1.1, .int .i64 x.2.2.1])]) := by
  subst h
  exact fd_slA Try.underlying40 (by kernel_rfl) (fd_arm rfl)
theorem fd_step {t : TypeId} (h : t = 42) : FD Try.prog t (1 + (1 + (1 + (1 + (1 + (1 + 1)))))) (fun x : StepA => [.str x.1, .int .i64 x.2.1.1, dtext x.2.2.1, .sl 3 (x.2.2.2.1.map fun x => .agg [dtext x.1, .int .i64 x.2.1.1, .int .i64 x.2.2.1]), .int .i64 x.2.2.2.2.1.1, .int .i64 x.2.2.2.2.2.1.1, .int .i64 x.2.2.2.2.2.2.1]) := by
  subst h
  exact fd_struct Try.underlying42 (by kernel_rfl) (by decide) (.cons rfl (fd_string rfl) (.cons rfl (fd_i64 rfl) (.cons rfl (fd_bytes rfl) (.cons rfl (fd_arms rfl) (.cons rfl (fd_i64 rfl) (.cons rfl (fd_i64 rfl) (.one rfl (fd_i64 rfl))))))))
theorem fd_steps {t : TypeId} (h : t = 22) : FD Try.prog t 1 (fun l : List StepA => [.sl 7 (l.map fun x => .agg [.str x.1, .int .i64 x.2.1.1, dtext x.2.2.1, .sl 3 (x.2.2.2.1.map fun x => .agg [dtext x.1, .int .i64 x.2.1.1, .int .i64 x.2.2.1]), .int .i64 x.2.2.2.2.1.1, .int .i64 x.2.2.2.2.2.1.1, .int .i64 x.2.2.2.2.2.2.1])]) := by
  subst h
  exact fd_slA Try.underlying22 (by kernel_rfl) (fd_step rfl)
theorem fd_book : FD Try.prog 25 (1 + (1 + 1)) (fun x : BookA => [.sl 7 (x.1.map fun x => .agg [.str x.1, .int .i64 x.2.1.1, dtext x.2.2.1, .sl 3 (x.2.2.2.1.map fun x => .agg [dtext x.1, .int .i64 x.2.1.1, .int .i64 x.2.2.1]), .int .i64 x.2.2.2.2.1.1, .int .i64 x.2.2.2.2.2.1.1, .int .i64 x.2.2.2.2.2.2.1]), .sl 1 (x.2.1.map D.str), .int .i64 x.2.2.1]) :=
  fd_struct Try.underlying25 (by kernel_rfl) (by decide) (.cons rfl (fd_steps rfl) (.cons rfl (fd_names rfl) (.one rfl (fd_i64 rfl))))
theorem bookOf_v (x : BookA) : (bookOf x).v = .agg [.d (.sl 7 (x.1.map fun x => .agg [.str x.1, .int .i64 x.2.1.1, dtext x.2.2.1, .sl 3 (x.2.2.2.1.map fun x => .agg [dtext x.1, .int .i64 x.2.1.1, .int .i64 x.2.2.1]), .int .i64 x.2.2.2.2.1.1, .int .i64 x.2.2.2.2.2.1.1, .int .i64 x.2.2.2.2.2.2.1])), .d (.sl 1 (x.2.1.map D.str)), i64 x.2.2.1] := by
  simp only [BookS.v, BookS.cells, bookOf, stepsD, List.map_map]
  congr 4
  refine List.map_congr_left fun y _ => ?_
  simp only [Function.comp, stepD, stepOf, armsD, List.map_map]
  rfl
theorem foldAll_vs (x : BookA) (l : List (List UInt8)) : Fn Try.prog 6 [.agg [.d (.sl 7 (x.1.map fun x => .agg [.str x.1, .int .i64 x.2.1.1, dtext x.2.2.1, .sl 3 (x.2.2.2.1.map fun x => .agg [dtext x.1, .int .i64 x.2.1.1, .int .i64 x.2.2.1]), .int .i64 x.2.2.2.2.1.1, .int .i64 x.2.2.2.2.2.1.1, .int .i64 x.2.2.2.2.2.2.1])), .d (.sl 1 (x.2.1.map D.str)), i64 x.2.2.1], texts l] [] (bool true) [] := by
  rw [← bookOf_v]
  exact foldAll_fn _ _
theorem foldRises_vs (x : BookA) (l : List RecA) : Fn Try.prog 3 [.agg [.d (.sl 7 (x.1.map fun x => .agg [.str x.1, .int .i64 x.2.1.1, dtext x.2.2.1, .sl 3 (x.2.2.2.1.map fun x => .agg [dtext x.1, .int .i64 x.2.1.1, .int .i64 x.2.2.1]), .int .i64 x.2.2.2.2.1.1, .int .i64 x.2.2.2.2.2.1.1, .int .i64 x.2.2.2.2.2.2.1])), .d (.sl 1 (x.2.1.map D.str)), i64 x.2.2.1], .d (.sl 13 (l.map fun x => .agg [.int .i64 x.1.1, .int .i64 x.2.1.1.1, .int .i64 x.2.1.2.1.1, .int .i64 x.2.1.2.2.1.1, .int .i64 x.2.1.2.2.2.1.1, .sl 1 (x.2.1.2.2.2.2.map dtext), .int .i64 x.2.2.1.1, .int .i64 x.2.2.2.1.1, .int .i64 x.2.2.2.2.1.1, .int .i64 x.2.2.2.2.2.1.1, .int .i64 x.2.2.2.2.2.2.1.1, .int .i64 x.2.2.2.2.2.2.2.1.1, dtext x.2.2.2.2.2.2.2.2]))] [] (bool true) [] := by
  rw [← bookOf_v]
  have h := foldRises_fn (bookOf x) (l.map recOf)
  rw [show recsD (l.map recOf) = D.sl 13 (l.map fun x => .agg [.int .i64 x.1.1, .int .i64 x.2.1.1.1, .int .i64 x.2.1.2.1.1, .int .i64 x.2.1.2.2.1.1, .int .i64 x.2.1.2.2.2.1.1, .sl 1 (x.2.1.2.2.2.2.map dtext), .int .i64 x.2.2.1.1, .int .i64 x.2.2.2.1.1, .int .i64 x.2.2.2.2.1.1, .int .i64 x.2.2.2.2.2.1.1, .int .i64 x.2.2.2.2.2.2.1.1, .int .i64 x.2.2.2.2.2.2.2.1.1, dtext x.2.2.2.2.2.2.2.2]) by
    unfold recsD
    rw [List.map_map]
    rfl] at h
  exact h
end Go.Proofs.Ytpmbeldmclcjlaa.Vs
