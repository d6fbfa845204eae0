/- instructions, as the document says: its last, Build, Same; patterns' ops as the document's; instructions alike; instructions: the document's Build. -/
import Derived.Test.YtgebfcdcpmmgnaaVnL
import Derived.Test.YtgebfcdcpmmgnaaVnN
import Derived.Test.YtgebfcdcpmmgnaaVnC
set_option linter.unusedVariables false
set_option linter.unusedSimpArgs false
namespace Go.Proofs.Ytgebfcdcpmmgnaa.Vs
open Go.RowKit
set_option maxRecDepth 100000
section
/-- What the ops up to a place end with. -/
def LastF (l : List OpS) (at_ : Nat) (x : List InstS) (ah : Nat) : Prop :=
  Fn Try.prog 68 [.d (opsD l), i64 at_] [] (.tup [.own 5 (x.map instD) 0, i64 ((ah : Int) - 1)]) [.cap 86 5 x.length] ∨ x = [] ∧ Fn Try.prog 68 [.d (opsD l), i64 at_] [] (.tup [.nil, i64 ((ah : Int) - 1)]) []
theorem LastF.d {l : List OpS} {at_ ah : Nat} {x : List InstS} (h : LastF l at_ x ah) : Fn Try.prog 68 [.d (opsD l), i64 at_] [] (.tup [.d (instsD x), i64 ((ah : Int) - 1)]) [] := by
  rcases h with h | ⟨rfl, h⟩
  · exact h.drop (.tup (.cons (.own rfl rfl) (.cons .rfl .nil))) rfl
  · exact h.wk (.tup (.cons (.nil (by decide) rfl) (.cons .rfl .nil)))
def LastR (l : List OpS) (at_ : Nat) (x : List InstS) (r : List (List InstS)) : Prop := ∃ ah : Nat, ah ≤ at_ ∧ runP (l.take ah) = some r ∧ LastF l at_ x ah
set_option maxHeartbeats 4000000 in
theorem last_1 (l : List OpS) (at_ : Nat) (hat : at_ < l.length) (hl : l.length ≤ 1000) (h : (l.getD at_ OpS.zero).kind = 1) : Fn Try.prog 68 [.d (opsD l), i64 at_] [] (.tup [.own 5 ([InstS.mk 1 0 0 (l.getD at_ OpS.zero).not (l.getD at_ OpS.zero).spans].map instD) 0, i64 ((at_ : Int) - 1)]) [.cap 86 5 [InstS.mk 1 0 0 (l.getD at_ OpS.zero).not (l.getD at_ OpS.zero).spans].length] := by
  refine en Try.func68 (hfr := by (simp only [Try.ntmps68, go_sem, Nat.reduceSub, Nat.reduceAdd]; rfl)) ?_
  refine W.post ?_
  repeat' (first | exact absurd hb Bool.false_ne_true | exact absurd hb.symm Bool.false_ne_true | refine W.seq ?_ | refine W.block ?_ | (refine rg [] ?_; intro K hK) | (refine dr [] ?_; intro K hK) | refine oq ?_ | refine sk ?_ | (refine nk hK ?_; clear hK K) | (refine nd hK ?_; clear hK K) | refine sp ?_ | refine ex ?_ | (refine gs (fun hb => ?_) (fun hb => ?_) <;> replace hb := nb hb <;> try exact noB hb) | (refine cd (fun hb => ?_) (fun hb => ?_) <;> replace hb := nb hb <;> try exact noB hb) | (with_reducible refine Exists.intro _ (And.intro rfl ?_)) | ((with_reducible refine And.intro ?_ ?_); (focus exact sdA)) | fail)
  refine rt ?_
  refine ⟨(ay 4 (.own 5 ([InstS.mk 1 0 0 (l.getD at_ OpS.zero).not (l.getD at_ OpS.zero).spans].map instD) 0 :: i64 ((at_ : Int) - 1) :: ay 117 [])), [.cap 86 5 1], sb [1] _ _ (hf := ?_), ?_⟩
  · skip
    exact wkA
  · refine fin ?_
    exact .rfl

set_option maxHeartbeats 4000000 in
theorem last_2 (l : List OpS) (at_ : Nat) (hat : at_ < l.length) (hl : l.length ≤ 1000) (h : (l.getD at_ OpS.zero).kind = 2) : Fn Try.prog 68 [.d (opsD l), i64 at_] [] (.tup [.nil, i64 ((at_ : Int) - 1)]) [] := by
  refine en Try.func68 (hfr := by (simp only [Try.ntmps68, go_sem, Nat.reduceSub, Nat.reduceAdd]; rfl)) ?_
  repeat' (first | exact absurd hb Bool.false_ne_true | exact absurd hb.symm Bool.false_ne_true | refine W.seq ?_ | refine W.block ?_ | (refine rg [] ?_; intro K hK) | (refine dr [] ?_; intro K hK) | refine oq ?_ | refine sk ?_ | (refine nk hK ?_; clear hK K) | (refine nd hK ?_; clear hK K) | refine sp ?_ | refine ex ?_ | (refine gs (fun hb => ?_) (fun hb => ?_) <;> replace hb := nb hb <;> try exact noB hb) | (refine cd (fun hb => ?_) (fun hb => ?_) <;> replace hb := nb hb <;> try exact noB hb) | (with_reducible refine Exists.intro _ (And.intro rfl ?_)) | ((with_reducible refine And.intro ?_ ?_); (focus exact sdA)) | fail)
  all_goals (refine rt ?_; refine fin ?_; exact wqA)
section
variable (l : List OpS) (at_ ah : Nat) (b : List InstS) (hat : at_ < l.length) (h1 : 1 ≤ at_) (hl : l.length ≤ 1000) (hb : b.length ≤ 3000) (c : Fn Try.prog 68 [.d (opsD l), i64 ((at_ - 1 : Nat) : Int)] [] (.tup [.d (instsD b), i64 ((ah : Int) - 1)]) [])
include hat h1 hl hb c
set_option maxHeartbeats 4000000 in
theorem last_5 (h : (l.getD at_ OpS.zero).kind = 5) : Fn Try.prog 68 [.d (opsD l), i64 at_] [] (.tup [.own 5 ((starL b).map instD) 0, i64 ((ah : Int) - 1)]) [.cap 86 5 (starL b).length] := by
  have e : D.agg [.int .i64 2, .int .i64 1, .int .i64 ((b.length + 2 : Nat) : Int), .bool false, .sl 2 []] :: (b.map instD ++ [.agg [.int .i64 3, .int .i64 (0 - ((b.length + 1 : Nat) : Int)), .int .i64 0, .bool false, .sl 2 []]]) = (starL b).map instD := by
    unfold starL
    rw [List.map_cons, List.map_append, show 0 - ((b.length + 1 : Nat) : Int) = 0 - (b.length : Int) - 1 by omega]
    rfl
  refine en Try.func68 (hfr := by (simp only [Try.ntmps68, go_sem, Nat.reduceSub, Nat.reduceAdd]; rfl)) ?_
  refine W.post ?_
  repeat' (first | exact absurd hb Bool.false_ne_true | exact absurd hb.symm Bool.false_ne_true | refine W.seq ?_ | refine W.block ?_ | (refine rg [] ?_; intro K hK) | (refine dr [] ?_; intro K hK) | refine cl (c) ?_ | refine oq ?_ | refine sk ?_ | (refine nk hK ?_; clear hK K) | (refine nd hK ?_; clear hK K) | refine sp ?_ | refine ex ?_ | (refine gs (fun hb => ?_) (fun hb => ?_) <;> replace hb := nb hb <;> try exact noB hb) | (refine cd (fun hb => ?_) (fun hb => ?_) <;> replace hb := nb hb <;> try exact noB hb) | (with_reducible refine Exists.intro _ (And.intro rfl ?_)) | ((with_reducible refine And.intro ?_ ?_); (focus exact sdA)) | fail)
  rw [e]
  rw [show 1 + b.length + 1 = (starL b).length by simp [starL]; omega]
  refine rt ?_
  refine ⟨(ay 4 (.own 5 ((starL b).map instD) 0 :: i64 ((ah : Int) - 1) :: ay 117 [])), [.cap 86 5 (starL b).length], sb [2] _ _ (hf := ?_), ?_⟩
  · skip
    exact wkA
  · refine fin ?_
    exact .rfl
set_option maxHeartbeats 4000000 in
theorem last_6 (h : (l.getD at_ OpS.zero).kind = 6) : Fn Try.prog 68 [.d (opsD l), i64 at_] [] (.tup [.own 5 ((plusL b).map instD) 0, i64 ((ah : Int) - 1)]) [.cap 86 5 (plusL b).length] := by
  have e : b.map instD ++ [.agg [.int .i64 2, .int .i64 (0 - (b.length : Int)), .int .i64 1, .bool false, .sl 2 []]] = (plusL b).map instD := by
    unfold plusL
    rw [List.map_append]
    rfl
  refine en Try.func68 (hfr := by (simp only [Try.ntmps68, go_sem, Nat.reduceSub, Nat.reduceAdd]; rfl)) ?_
  refine W.post ?_
  repeat' (first | exact absurd hb Bool.false_ne_true | exact absurd hb.symm Bool.false_ne_true | refine W.seq ?_ | refine W.block ?_ | (refine rg [] ?_; intro K hK) | (refine dr [] ?_; intro K hK) | refine cl (c) ?_ | refine oq ?_ | refine sk ?_ | (refine nk hK ?_; clear hK K) | (refine nd hK ?_; clear hK K) | refine sp ?_ | refine ex ?_ | (refine gs (fun hb => ?_) (fun hb => ?_) <;> replace hb := nb hb <;> try exact noB hb) | (refine cd (fun hb => ?_) (fun hb => ?_) <;> replace hb := nb hb <;> try exact noB hb) | (with_reducible refine Exists.intro _ (And.intro rfl ?_)) | ((with_reducible refine And.intro ?_ ?_); (focus exact sdA)) | fail)
  rw [e]
  rw [show b.length + 1 = (plusL b).length by simp [plusL]]
  refine rt ?_
  refine ⟨(ay 4 (.own 5 ((plusL b).map instD) 0 :: i64 ((ah : Int) - 1) :: ay 117 [])), [.cap 86 5 (plusL b).length], sb [1] _ _ (hf := ?_), ?_⟩
  · skip
    exact wkA
  · refine fin ?_
    exact .rfl
set_option maxHeartbeats 4000000 in
theorem last_7 (h : (l.getD at_ OpS.zero).kind = 7) : Fn Try.prog 68 [.d (opsD l), i64 at_] [] (.tup [.own 5 ((optL b).map instD) 0, i64 ((ah : Int) - 1)]) [.cap 86 5 (optL b).length] := by
  have e : D.agg [.int .i64 2, .int .i64 1, .int .i64 ((b.length + 1 : Nat) : Int), .bool false, .sl 2 []] :: b.map instD = (optL b).map instD := rfl
  refine en Try.func68 (hfr := by (simp only [Try.ntmps68, go_sem, Nat.reduceSub, Nat.reduceAdd]; rfl)) ?_
  refine W.post ?_
  repeat' (first | exact absurd hb Bool.false_ne_true | exact absurd hb.symm Bool.false_ne_true | refine W.seq ?_ | refine W.block ?_ | (refine rg [] ?_; intro K hK) | (refine dr [] ?_; intro K hK) | refine cl (c) ?_ | refine oq ?_ | refine sk ?_ | (refine nk hK ?_; clear hK K) | (refine nd hK ?_; clear hK K) | refine sp ?_ | refine ex ?_ | (refine gs (fun hb => ?_) (fun hb => ?_) <;> replace hb := nb hb <;> try exact noB hb) | (refine cd (fun hb => ?_) (fun hb => ?_) <;> replace hb := nb hb <;> try exact noB hb) | (with_reducible refine Exists.intro _ (And.intro rfl ?_)) | ((with_reducible refine And.intro ?_ ?_); (focus exact sdA)) | fail)
  rw [e]
  rw [show 1 + b.length = (optL b).length by simp [optL]; omega]
  refine rt ?_
  refine ⟨(ay 4 (.own 5 ((optL b).map instD) 0 :: i64 ((ah : Int) - 1) :: ay 117 [])), [.cap 86 5 (optL b).length], sb [2] _ _ (hf := ?_), ?_⟩
  · skip
    exact wkA
  · refine fin ?_
    exact .rfl
variable (a : List InstS) (ah2 : Nat) (ha : a.length ≤ 3000) (h2 : 1 ≤ ah) (c2 : Fn Try.prog 68 [.d (opsD l), i64 ((ah - 1 : Nat) : Int)] [] (.tup [.d (instsD a), i64 ((ah2 : Int) - 1)]) [])
include ha h2 c2
set_option maxHeartbeats 4000000 in
theorem last_3 (h : (l.getD at_ OpS.zero).kind = 3) : Fn Try.prog 68 [.d (opsD l), i64 at_] [] (.tup [.own 5 ((a ++ b).map instD) 0, i64 ((ah2 : Int) - 1)]) [.cap 86 5 (a.length + b.length)] := by
  refine en Try.func68 (hfr := by (simp only [Try.ntmps68, go_sem, Nat.reduceSub, Nat.reduceAdd]; rfl)) ?_
  refine W.post ?_
  repeat' (first | exact absurd hb Bool.false_ne_true | exact absurd hb.symm Bool.false_ne_true | refine W.seq ?_ | refine W.block ?_ | (refine rg [] ?_; intro K hK) | (refine dr [] ?_; intro K hK) | refine cl (c) ?_ | refine cl (c2) ?_ | refine oq ?_ | refine sk ?_ | (refine nk hK ?_; clear hK K) | (refine nd hK ?_; clear hK K) | refine sp ?_ | refine ex ?_ | (refine gs (fun hb => ?_) (fun hb => ?_) <;> replace hb := nb hb <;> try exact noB hb) | (refine cd (fun hb => ?_) (fun hb => ?_) <;> replace hb := nb hb <;> try exact noB hb) | (with_reducible refine Exists.intro _ (And.intro rfl ?_)) | ((with_reducible refine And.intro ?_ ?_); (focus exact sdA)) | fail)
  refine rt ?_
  refine ⟨(ay 4 (.own 5 ((a ++ b).map instD) 0 :: i64 ((ah2 : Int) - 1) :: ay 117 [])), [.cap 86 5 (a.length + b.length)], sb [1] _ _ (hf := ?_), ?_⟩
  · skip
    exact wkA
  · refine fin ?_
    exact .rfl
set_option maxHeartbeats 4000000 in
theorem last_4 (h : (l.getD at_ OpS.zero).kind = 4) : Fn Try.prog 68 [.d (opsD l), i64 at_] [] (.tup [.own 5 ((altL a b).map instD) 0, i64 ((ah2 : Int) - 1)]) [.cap 86 5 (altL a b).length] := by
  have e : D.agg [.int .i64 2, .int .i64 1, .int .i64 ((a.length + 2 : Nat) : Int), .bool false, .sl 2 []] :: (a.map instD ++ [.agg [.int .i64 3, .int .i64 ((b.length + 1 : Nat) : Int), .int .i64 0, .bool false, .sl 2 []]] ++ b.map instD) = (altL a b).map instD := by
    unfold altL
    rw [List.map_cons, List.map_append, List.append_assoc]
    rfl
  refine en Try.func68 (hfr := by (simp only [Try.ntmps68, go_sem, Nat.reduceSub, Nat.reduceAdd]; rfl)) ?_
  refine W.post ?_
  repeat' (first | exact absurd hb Bool.false_ne_true | exact absurd hb.symm Bool.false_ne_true | refine W.seq ?_ | refine W.block ?_ | (refine rg [] ?_; intro K hK) | (refine dr [] ?_; intro K hK) | refine cl (c) ?_ | refine cl (c2) ?_ | refine oq ?_ | refine sk ?_ | (refine nk hK ?_; clear hK K) | (refine nd hK ?_; clear hK K) | refine sp ?_ | refine ex ?_ | (refine gs (fun hb => ?_) (fun hb => ?_) <;> replace hb := nb hb <;> try exact noB hb) | (refine cd (fun hb => ?_) (fun hb => ?_) <;> replace hb := nb hb <;> try exact noB hb) | (with_reducible refine Exists.intro _ (And.intro rfl ?_)) | ((with_reducible refine And.intro ?_ ?_); (focus exact sdA)) | fail)
  rw [e]
  rw [show 1 + a.length + 1 + b.length = (altL a b).length by simp [altL]; omega]
  refine rt ?_
  refine ⟨(ay 4 (.own 5 ((altL a b).map instD) 0 :: i64 ((ah2 : Int) - 1) :: ay 117 [])), [.cap 86 5 (altL a b).length], sb [2] _ _ (hf := ?_), ?_⟩
  · skip
    exact wkA
  · refine fin ?_
    exact .rfl
end
theorem piece_len {l : List OpS} {i : Nat} {sp : List (List InstS)} {x : List InstS} (hl : l.length ≤ 1000) (h : runP (l.take i) = some sp) (hx : x ∈ sp) : x.length ≤ 3000 := by
  have h1 := runP_total _ _ h
  have h2 : x.length ≤ total sp := by
    clear h h1
    induction sp with
    | nil => cases hx
    | cons y sp ih =>
      rw [total_cons]
      rcases List.mem_cons.1 hx with rfl | h
      · omega
      · have := ih h
        omega
  rw [List.length_take] at h1
  omega
theorem last_fn (l : List OpS) (hl : l.length ≤ 1000) : ∀ (n at_ : Nat), at_ < n → at_ < l.length → ∀ x r, runP (l.take (at_ + 1)) = some (x :: r) → LastR l at_ x r
  | 0, _, h, _, _, _, _ => by omega
  | n + 1, at_, hn, hat, x, r, h => by
    have ih := last_fn l hl n
    rw [runP_take l at_ hat] at h
    cases hp : runP (l.take at_) with
    | none => rw [hp] at h; cases h
    | some sp =>
      rw [hp] at h
      have h : stepP (l.getD at_ OpS.zero) sp = some (x :: r) := h
      have hpos : sp ≠ [] → 1 ≤ at_ := fun hne => by
        rcases Nat.eq_zero_or_pos at_ with h0 | h0
        · subst h0
          rw [List.take_zero] at hp
          have : runP [] = some [] := rfl
          rw [this] at hp
          injection hp with hp
          exact absurd hp.symm hne
        · exact h0
      unfold stepP at h
      split at h
      · rename_i k
        injection h with h
        injection h with h1 h2
        subst h1; subst h2
        exact ⟨at_, Nat.le_refl _, hp, .inl (last_1 l at_ hat hl k)⟩
      split at h
      · rename_i k
        injection h with h
        injection h with h1 h2
        subst h1; subst h2
        exact ⟨at_, Nat.le_refl _, hp, .inr ⟨rfl, last_2 l at_ hat hl k⟩⟩
      have one : ∀ (b : List InstS) (r' : List (List InstS)), sp = b :: r' → LastR l (at_ - 1) b r' ∧ 1 ≤ at_ := fun b r' e => by
        have h1 := hpos (by rw [e]; simp)
        refine ⟨ih (at_ - 1) (by omega) (by omega) b r' ?_, h1⟩
        rw [Nat.sub_add_cancel h1, hp, e]
      have two : ∀ (b a : List InstS) (r' : List (List InstS)), sp = b :: a :: r' → ∃ ah ah2 : Nat, 1 ≤ at_ ∧ 1 ≤ ah ∧ ah2 ≤ at_ ∧ runP (l.take ah2) = some r' ∧ Fn Try.prog 68 [.d (opsD l), i64 ((at_ - 1 : Nat) : Int)] [] (.tup [.d (instsD b), i64 ((ah : Int) - 1)]) [] ∧ Fn Try.prog 68 [.d (opsD l), i64 ((ah - 1 : Nat) : Int)] [] (.tup [.d (instsD a), i64 ((ah2 : Int) - 1)]) [] := fun b a r' e => by
        obtain ⟨⟨ah, k1, k2, k3⟩, h1⟩ := one b (a :: r') e
        have h2 : 1 ≤ ah := by
          rcases Nat.eq_zero_or_pos ah with h0 | h0
          · subst h0
            rw [List.take_zero] at k2
            have : runP [] = some [] := rfl
            rw [this] at k2
            cases k2
          · exact h0
        obtain ⟨ah2, j1, j2, j3⟩ := ih (ah - 1) (by omega) (by omega) a r' (by rw [Nat.sub_add_cancel h2, k2])
        exact ⟨ah, ah2, h1, h2, by omega, j2, k3.d, j3.d⟩
      split at h
      · rename_i k
        split at h
        · rename_i b a r' _
          injection h with h
          injection h with h1 h2
          subst h1; subst h2
          obtain ⟨ah, ah2, q1, q2, q3, q4, c, c2⟩ := two b a r' rfl
          exact ⟨ah2, q3, q4, .inl (List.length_append ▸ last_3 l at_ ah b hat q1 hl (piece_len hl hp (by simp)) c a ah2 (piece_len hl hp (by simp)) q2 c2 k)⟩
        · cases h
      split at h
      · rename_i k
        split at h
        · rename_i b a r' _
          injection h with h
          injection h with h1 h2
          subst h1; subst h2
          obtain ⟨ah, ah2, q1, q2, q3, q4, c, c2⟩ := two b a r' rfl
          exact ⟨ah2, q3, q4, .inl (last_4 l at_ ah b hat q1 hl (piece_len hl hp (by simp)) c a ah2 (piece_len hl hp (by simp)) q2 c2 k)⟩
        · cases h
      split at h
      · rename_i k
        split at h
        · rename_i b r' _
          injection h with h
          injection h with h1 h2
          subst h1; subst h2
          obtain ⟨⟨ah, k1, k2, k3⟩, q1⟩ := one b r' rfl
          exact ⟨ah, by omega, k2, .inl (last_5 l at_ ah b hat q1 hl (piece_len hl hp (by simp)) k3.d k)⟩
        · cases h
      split at h
      · rename_i k
        split at h
        · rename_i b r' _
          injection h with h
          injection h with h1 h2
          subst h1; subst h2
          obtain ⟨⟨ah, k1, k2, k3⟩, q1⟩ := one b r' rfl
          exact ⟨ah, by omega, k2, .inl (last_6 l at_ ah b hat q1 hl (piece_len hl hp (by simp)) k3.d k)⟩
        · cases h
      split at h
      · rename_i k
        split at h
        · rename_i b r' _
          injection h with h
          injection h with h1 h2
          subst h1; subst h2
          obtain ⟨⟨ah, k1, k2, k3⟩, q1⟩ := one b r' rfl
          exact ⟨ah, by omega, k2, .inl (last_7 l at_ ah b hat q1 hl (piece_len hl hp (by simp)) k3.d k)⟩
        · cases h
      · cases h
end
set_option maxHeartbeats 4000000 in
theorem ras_fn (l : List OpS) (hl : l.length ≤ 10000) (hs : ∀ x ∈ l, x.spans.length ≤ 10000) : Fn Try.prog 36 [.d (opsD l)] [] (.d (opsD l)) [] := by
  refine en Try.func36 (hfr := by (simp only [Try.ntmps36, go_sem, Nat.reduceSub, Nat.reduceAdd]; rfl)) ?_
  repeat' (first | exact absurd hb Bool.false_ne_true | exact absurd hb.symm Bool.false_ne_true | refine W.seq ?_ | refine W.block ?_ | (refine rgx [3] [] ?_; intro K hK) | (refine drx [3] [] ?_; intro K hK) | refine oq ?_ | refine sk ?_ | (refine nk hK ?_; clear hK K) | (refine nd hK ?_; clear hK K) | refine sp ?_ | refine ex ?_ | (refine gs (fun hb => ?_) (fun hb => ?_) <;> replace hb := nb hb <;> try exact noB hb) | (refine cd (fun hb => ?_) (fun hb => ?_) <;> replace hb := nb hb <;> try exact noB hb) | (with_reducible refine Exists.intro _ (And.intro rfl ?_)) | ((with_reducible refine And.intro ?_ ?_); (focus exact sdA)) | fail)
  refine W.ent (Ent.more 1) ?_
  refine W.ent (Ent.nilOwn 149 (i := 0) (q := 3) (fr' := (.d (opsD l) :: ay 2 (.own 3 [] 0 :: i64 0 :: ay 58 []))) rfl (by decide) ?_) ?_
  · skip
    repeat' (first | exact NoL.nil | refine NoL.own ?_ | refine NoL.cons ?_ ?_ | exact Wk.any | exact Wk.rfl)
  refine W.lp (ι := Nat) (fun i => (.d (opsD l) :: ay 2 (.own 3 ((l.take i).map opD) 0 :: i64 i :: ay 58 []))) (fun i => [.cap 149 3 i]) (fun i => i ≤ l.length) (fun i => l.length - i) 0 (Nat.zero_le _) (Ent.to ?_ rfl) ?_
  · skip
    exact wkA
  · intro i hi
    have hti : ((l.take i).map opD).length = i := by rw [List.length_map, List.length_take]; omega
    by_cases hlt : i < l.length
    · have hx := gdS hlt OpS.zero
      have hxs := hs _ (List.mem_of_getElem? hx)
      have htm := takeS_map opD l i hlt OpS.zero
      repeat' (first | exact absurd hb Bool.false_ne_true | exact absurd hb.symm Bool.false_ne_true | refine W.seq ?_ | refine W.block ?_ | (refine rgx [7] [] ?_; intro K hK) | (refine drx [7] [] ?_; intro K hK) | refine oq ?_ | refine sk ?_ | (refine nk hK ?_; clear hK K) | (refine nd hK ?_; clear hK K) | refine sp ?_ | refine ex ?_ | (refine gs (fun hb => ?_) (fun hb => ?_) <;> replace hb := nb hb <;> try exact noB hb) | (refine cd (fun hb => ?_) (fun hb => ?_) <;> replace hb := nb hb <;> try exact noB hb) | (with_reducible refine Exists.intro _ (And.intro rfl ?_)) | ((with_reducible refine And.intro ?_ ?_); (focus exact sdA)) | fail)
      refine W.ent (Ent.more 1) ?_
      refine W.ent (Ent.nilOwnC (i := 2) (j := 1) (q := 2) (e := 152) (us := [i64 (l.getD i OpS.zero).kind, bool (l.getD i OpS.zero).not, .own 2 [] 2]) rfl rfl (by decide) ?_) ?_
      · skip
        repeat' (first | exact NoL.nil | refine NoL.own ?_ | refine NoL.cons ?_ ?_ | exact Wk.any | exact Wk.rfl)
      refine W.lp (ι := Nat) (fun k => (.d (opsD l) :: ay 2 (.own 3 ((l.take i).map opD) 0 :: i64 i :: .ptr 1 0 :: i64 k :: ay 56 []))) (fun k => [.cap 149 3 i, .cells 149 [i64 (l.getD i OpS.zero).kind, bool (l.getD i OpS.zero).not, .own 2 (((l.getD i OpS.zero).spans.take k).map spanD) 2], .cap 152 2 k]) (fun k => k ≤ (l.getD i OpS.zero).spans.length) (fun k => (l.getD i OpS.zero).spans.length - k) 0 (Nat.zero_le _) (Ent.to ?_ rfl) ?_
      · skip
        exact wkA
      · intro k hk
        have htk : (((l.getD i OpS.zero).spans.take k).map spanD).length = k := by rw [List.length_map, List.length_take]; omega
        by_cases hkl : k < (l.getD i OpS.zero).spans.length
        · have hy := takeS_map spanD (l.getD i OpS.zero).spans k hkl SpanS.zero
          repeat' (first | exact absurd hb Bool.false_ne_true | exact absurd hb.symm Bool.false_ne_true | refine W.seq ?_ | refine W.block ?_ | (refine rg [] ?_; intro K hK) | (refine dr [] ?_; intro K hK) | refine oq ?_ | refine sk ?_ | (refine nk hK ?_; clear hK K) | (refine nd hK ?_; clear hK K) | refine sp ?_ | refine ex ?_ | (refine gs (fun hb => ?_) (fun hb => ?_) <;> replace hb := nb hb <;> try exact noB hb) | (refine cd (fun hb => ?_) (fun hb => ?_) <;> replace hb := nb hb <;> try exact noB hb) | (with_reducible refine Exists.intro _ (And.intro rfl ?_)) | ((with_reducible refine And.intro ?_ ?_); (focus exact sdA)) | fail)
          rw [hy]
          refine nx (k + 1) (by omega) (by omega) (sb [0, 1, 2] _ _ (hf := ?_))
          exact wkA
        · have e : (l.getD i OpS.zero).spans.take k = (l.getD i OpS.zero).spans := List.take_of_length_le (by omega)
          repeat' (first | exact absurd hb Bool.false_ne_true | exact absurd hb.symm Bool.false_ne_true | refine W.seq ?_ | refine W.block ?_ | (refine rg [] ?_; intro K hK) | (refine dr [] ?_; intro K hK) | refine oq ?_ | refine sk ?_ | (refine nk hK ?_; clear hK K) | (refine nd hK ?_; clear hK K) | refine sp ?_ | refine ex ?_ | (refine gs (fun hb => ?_) (fun hb => ?_) <;> replace hb := nb hb <;> try exact noB hb) | (refine cd (fun hb => ?_) (fun hb => ?_) <;> replace hb := nb hb <;> try exact noB hb) | (with_reducible refine Exists.intro _ (And.intro rfl ?_)) | ((with_reducible refine And.intro ?_ ?_); (focus exact sdA)) | fail)
          rw [e, htm]
          refine nx (i + 1) (by omega) (by omega) (sb [0] _ _ (hf := ?_))
          exact wkA
    · rw [List.take_of_length_le (by omega)]
      repeat' (first | exact absurd hb Bool.false_ne_true | exact absurd hb.symm Bool.false_ne_true | refine W.seq ?_ | refine W.block ?_ | (refine rg [] ?_; intro K hK) | (refine dr [] ?_; intro K hK) | refine oq ?_ | refine sk ?_ | (refine nk hK ?_; clear hK K) | (refine nd hK ?_; clear hK K) | refine sp ?_ | refine ex ?_ | (refine gs (fun hb => ?_) (fun hb => ?_) <;> replace hb := nb hb <;> try exact noB hb) | (refine cd (fun hb => ?_) (fun hb => ?_) <;> replace hb := nb hb <;> try exact noB hb) | (with_reducible refine Exists.intro _ (And.intro rfl ?_)) | ((with_reducible refine And.intro ?_ ?_); (focus exact sdA)) | fail)
      all_goals (refine rt ?_; refine fin ?_; exact wqA)
set_option maxHeartbeats 8000000 in
theorem same_fn (a : List InstS) (hl : a.length ≤ 10000) (hs : ∀ x ∈ a, x.spans.length ≤ 10000) : Fn Try.prog 37 [.d (instsD a), .d (instsD a)] [] (bool true) [] := by
  refine en Try.func37 (hfr := by (simp only [Try.ntmps37, go_sem, Nat.reduceSub, Nat.reduceAdd]; rfl)) ?_
  repeat' (first | exact absurd hb Bool.false_ne_true | exact absurd hb.symm Bool.false_ne_true | refine W.seq ?_ | refine W.block ?_ | (refine rgx [4] [] ?_; intro K hK) | (refine drx [4] [] ?_; intro K hK) | refine oq ?_ | refine sk ?_ | (refine nk hK ?_; clear hK K) | (refine nd hK ?_; clear hK K) | refine sp ?_ | refine ex ?_ | (refine gs (fun hb => ?_) (fun hb => ?_) <;> replace hb := nb hb <;> try exact noB hb) | (refine cd (fun hb => ?_) (fun hb => ?_) <;> replace hb := nb hb <;> try exact noB hb) | (with_reducible refine Exists.intro _ (And.intro rfl ?_)) | ((with_reducible refine And.intro ?_ ?_); (focus exact sdA)) | fail)
  refine W.lp (ι := Nat) (fun i => (.d (instsD a) :: .d (instsD a) :: ay 3 (i64 i :: ay 104 []))) (fun _ => []) (fun i => i ≤ a.length) (fun i => a.length - i) 0 (Nat.zero_le _) (Ent.to ?_ rfl) ?_
  · skip
    exact wkA
  · intro i hi
    by_cases hlt : i < a.length
    · have hx := gdS hlt InstS.zero
      have hxs := hs _ (List.mem_of_getElem? hx)
      repeat' (first | exact absurd hb Bool.false_ne_true | exact absurd hb.symm Bool.false_ne_true | refine W.seq ?_ | refine W.block ?_ | (refine rgx [9] [] ?_; intro K hK) | (refine drx [9] [] ?_; intro K hK) | refine oq ?_ | refine sk ?_ | (refine nk hK ?_; clear hK K) | (refine nd hK ?_; clear hK K) | refine sp ?_ | refine ex ?_ | (refine gs (fun hb => ?_) (fun hb => ?_) <;> replace hb := nb hb <;> try exact noB hb) | (refine cd (fun hb => ?_) (fun hb => ?_) <;> replace hb := nb hb <;> try exact noB hb) | (with_reducible refine Exists.intro _ (And.intro rfl ?_)) | ((with_reducible refine And.intro ?_ ?_); (focus exact sdA)) | fail)
      refine W.lp (ι := Nat) (fun k => (.d (instsD a) :: .d (instsD a) :: ay 3 (i64 i :: i64 k :: ay 103 []))) (fun _ => []) (fun k => k ≤ (a.getD i InstS.zero).spans.length) (fun k => (a.getD i InstS.zero).spans.length - k) 0 (Nat.zero_le _) (Ent.to ?_ rfl) ?_
      · skip
        exact wkA
      · intro k hk
        by_cases hkl : k < (a.getD i InstS.zero).spans.length
        · skip
          repeat' (first | exact absurd hb Bool.false_ne_true | exact absurd hb.symm Bool.false_ne_true | refine W.seq ?_ | refine W.block ?_ | (refine rg [] ?_; intro K hK) | (refine dr [] ?_; intro K hK) | ((refine neSpanR ?_)) | refine oq ?_ | refine sk ?_ | (refine nk hK ?_; clear hK K) | (refine nd hK ?_; clear hK K) | refine sp ?_ | refine ex ?_ | (refine gs (fun hb => ?_) (fun hb => ?_) <;> replace hb := nb hb <;> try exact noB hb) | (refine cd (fun hb => ?_) (fun hb => ?_) <;> replace hb := nb hb <;> try exact noB hb) | (with_reducible refine Exists.intro _ (And.intro rfl ?_)) | ((with_reducible refine And.intro ?_ ?_); (focus exact sdA)) | fail)
          refine nx (k + 1) (by omega) (by omega) (Ent.to ?_ rfl)
          exact wkA
        · skip
          repeat' (first | exact absurd hb Bool.false_ne_true | exact absurd hb.symm Bool.false_ne_true | refine W.seq ?_ | refine W.block ?_ | (refine rg [] ?_; intro K hK) | (refine dr [] ?_; intro K hK) | refine oq ?_ | refine sk ?_ | (refine nk hK ?_; clear hK K) | (refine nd hK ?_; clear hK K) | refine sp ?_ | refine ex ?_ | (refine gs (fun hb => ?_) (fun hb => ?_) <;> replace hb := nb hb <;> try exact noB hb) | (refine cd (fun hb => ?_) (fun hb => ?_) <;> replace hb := nb hb <;> try exact noB hb) | (with_reducible refine Exists.intro _ (And.intro rfl ?_)) | ((with_reducible refine And.intro ?_ ?_); (focus exact sdA)) | fail)
          refine nx (i + 1) (by omega) (by omega) (Ent.to ?_ rfl)
          exact wkA
    · skip
      repeat' (first | exact absurd hb Bool.false_ne_true | exact absurd hb.symm Bool.false_ne_true | refine W.seq ?_ | refine W.block ?_ | (refine rg [] ?_; intro K hK) | (refine dr [] ?_; intro K hK) | refine oq ?_ | refine sk ?_ | (refine nk hK ?_; clear hK K) | (refine nd hK ?_; clear hK K) | refine sp ?_ | refine ex ?_ | (refine gs (fun hb => ?_) (fun hb => ?_) <;> replace hb := nb hb <;> try exact noB hb) | (refine cd (fun hb => ?_) (fun hb => ?_) <;> replace hb := nb hb <;> try exact noB hb) | (with_reducible refine Exists.intro _ (And.intro rfl ?_)) | ((with_reducible refine And.intro ?_ ?_); (focus exact sdA)) | fail)
      all_goals (refine rt ?_; refine fin ?_; exact wqA)
set_option maxHeartbeats 4000000 in
theorem xbuild_fn (l : List OpS) (hl : l.length ≤ 1000) : Fn Try.prog 35 [.d (opsD l)] [] (.tup [.d (instsD (buildS l).1), i64 (buildS l).2]) [] := by
  have c1 := nmay_fn l (by omega)
  have c2 := nmany_fn l (by omega)
  have hml := many_le l l.length (Nat.le_refl _)
  rw [List.take_of_length_le (Nat.le_refl _)] at hml
  rcases buildS_eq l with ⟨h1, h2⟩ | ⟨h1, h2, h3⟩ | ⟨h1, h2, x, h3, h4⟩
  · rw [h2]
    rw [decide_eq_false h1] at c1
    refine en Try.func35 (hfr := by (simp only [Try.ntmps35, go_sem, Nat.reduceSub, Nat.reduceAdd]; rfl)) ?_
    repeat' (first | exact absurd hb Bool.false_ne_true | exact absurd hb.symm Bool.false_ne_true | refine W.seq ?_ | refine W.block ?_ | (refine rg [] ?_; intro K hK) | (refine dr [] ?_; intro K hK) | refine cl (c1) ?_ | refine oq ?_ | refine sk ?_ | (refine nk hK ?_; clear hK K) | (refine nd hK ?_; clear hK K) | refine sp ?_ | refine ex ?_ | (refine gs (fun hb => ?_) (fun hb => ?_) <;> replace hb := nb hb <;> try exact noB hb) | (refine cd (fun hb => ?_) (fun hb => ?_) <;> replace hb := nb hb <;> try exact noB hb) | (with_reducible refine Exists.intro _ (And.intro rfl ?_)) | ((with_reducible refine And.intro ?_ ?_); (focus exact sdA)) | fail)
    all_goals (refine rt ?_; refine fin ?_; exact wqA)
  · rw [h3]
    rw [decide_eq_true h1] at c1
    refine en Try.func35 (hfr := by (simp only [Try.ntmps35, go_sem, Nat.reduceSub, Nat.reduceAdd]; rfl)) ?_
    repeat' (first | exact absurd hb Bool.false_ne_true | exact absurd hb.symm Bool.false_ne_true | refine W.seq ?_ | refine W.block ?_ | (refine rg [] ?_; intro K hK) | (refine dr [] ?_; intro K hK) | refine cl (c1) ?_ | refine cl (c2) ?_ | refine oq ?_ | refine sk ?_ | (refine nk hK ?_; clear hK K) | (refine nd hK ?_; clear hK K) | refine sp ?_ | refine ex ?_ | (refine gs (fun hb => ?_) (fun hb => ?_) <;> replace hb := nb hb <;> try exact noB hb) | (refine cd (fun hb => ?_) (fun hb => ?_) <;> replace hb := nb hb <;> try exact noB hb) | (with_reducible refine Exists.intro _ (And.intro rfl ?_)) | ((with_reducible refine And.intro ?_ ?_); (focus exact sdA)) | fail)
    all_goals (refine rt ?_; refine fin ?_; exact wqA)
  · rw [h4]
    rw [decide_eq_true h1] at c1
    have hne : 1 ≤ l.length := by
      rcases Nat.eq_zero_or_pos l.length with h | h
      · have : l = [] := List.eq_nil_of_length_eq_zero h
        rw [this] at h3
        cases h3
      · exact h
    have hx : x.length ≤ 3000 := piece_len (l := l) (i := l.length) hl (by rw [List.take_of_length_le (Nat.le_refl _)]; exact h3) (by simp)
    obtain ⟨ah, k1, k2, c3⟩ := last_fn l hl l.length (l.length - 1) (by omega) (by omega) x [] (by rw [Nat.sub_add_cancel hne, List.take_of_length_le (Nat.le_refl _)]; exact h3)
    have e : x.map instD ++ [.agg [.int .i64 4, .int .i64 0, .int .i64 0, .bool false, .sl 2 []]] = (x ++ [doneI]).map instD := by rw [List.map_append]; rfl
    rcases c3 with c3 | ⟨rfl, c3⟩
    · skip
      refine en Try.func35 (hfr := by (simp only [Try.ntmps35, go_sem, Nat.reduceSub, Nat.reduceAdd]; rfl)) ?_
      refine W.ent (Ent.more 1) ?_
      repeat' (first | exact absurd hb Bool.false_ne_true | exact absurd hb.symm Bool.false_ne_true | refine W.seq ?_ | refine W.block ?_ | (refine rg [] ?_; intro K hK) | (refine dr [] ?_; intro K hK) | refine cl (c1) ?_ | refine cl (c2) ?_ | refine cle [0] 1 (c3) ?_ | refine oq ?_ | refine sk ?_ | (refine nk hK ?_; clear hK K) | (refine nd hK ?_; clear hK K) | refine sp ?_ | refine ex ?_ | (refine gs (fun hb => ?_) (fun hb => ?_) <;> replace hb := nb hb <;> try exact noB hb) | (refine cd (fun hb => ?_) (fun hb => ?_) <;> replace hb := nb hb <;> try exact noB hb) | (with_reducible refine Exists.intro _ (And.intro rfl ?_)) | ((with_reducible refine And.intro ?_ ?_); (focus exact sdA)) | fail)
      rw [e]
      all_goals (refine rt ?_; refine fin ?_; exact wqA)
    · skip
      refine en Try.func35 (hfr := by (simp only [Try.ntmps35, go_sem, Nat.reduceSub, Nat.reduceAdd]; rfl)) ?_
      repeat' (first | exact absurd hb Bool.false_ne_true | exact absurd hb.symm Bool.false_ne_true | refine W.seq ?_ | refine W.block ?_ | (refine rg [] ?_; intro K hK) | (refine dr [] ?_; intro K hK) | refine cl (c1) ?_ | refine cl (c2) ?_ | refine cl (c3) ?_ | refine oq ?_ | refine sk ?_ | (refine nk hK ?_; clear hK K) | (refine nd hK ?_; clear hK K) | refine sp ?_ | refine ex ?_ | (refine gs (fun hb => ?_) (fun hb => ?_) <;> replace hb := nb hb <;> try exact noB hb) | (refine cd (fun hb => ?_) (fun hb => ?_) <;> replace hb := nb hb <;> try exact noB hb) | (with_reducible refine Exists.intro _ (And.intro rfl ?_)) | ((with_reducible refine And.intro ?_ ?_); (focus exact sdA)) | fail)
      all_goals (refine rt ?_; refine fin ?_; exact wqA)
end Go.Proofs.Ytgebfcdcpmmgnaa.Vs
