/- lex: what the law of cuts comes to, plainly. -/
import Derived.Test.YtpcapijakenjbaaPureLexB
set_option linter.unusedVariables false
set_option linter.unusedSimpArgs false
namespace Go.Proofs.Ytpcapijakenjbaa.Pure
open Go.RowKit Go.Proofs.Ytpcapijakenjbaa.GLex Go.Proofs.YtpcapijakenjbaaW.PrintWords Go.Proofs.YtpcapijakenjbaaW.PrintLast Go.Proofs.Ytpcapijakenjbaa.Sl Go.Proofs.Ytpcapijakenjbaa.Lex
def refTok (t : TokV) : S119 := ⟨t.kind, t.at_, t.n, nb t.text⟩
def rres : Nat ⊕ List TokV → List S119 × Int × Int
  | .inl q => ([], (q : Int), 2)
  | .inr l => (l.map refTok, 0, 0)
theorem cut_ev (s : List UInt8) (hs : s.length ≤ 1000000) : ∀ (d p : Nat) (out : List TokV), s.length - p ≤ d → p ≤ s.length → out.length ≤ p → Ev (fun k => davitref11_Cut.l0 k (nb s) (out.map refTok) (p : Int)) (rres (cutR s p out)) := by
  intro d
  induction d with
  | zero =>
    intro p out hd hp ho
    rw [cutR_eq s p out hp, if_pos (by omega)]
    exact Ev.step (f := fun _ => some (out.map refTok, (0 : Int), (0 : Int))) (fun k => by simp only [davitref11_Cut.l0]; rw [if_neg (by simp; omega)]) (Ev.now _)
  | succ d ih =>
    intro p out hd hp ho
    rw [cutR_eq s p out hp]
    by_cases hlt : s.length ≤ p
    · rw [if_pos hlt]
      exact Ev.step (f := fun _ => some (out.map refTok, (0 : Int), (0 : Int))) (fun k => by simp only [davitref11_Cut.l0]; rw [if_neg (by simp; omega)]) (Ev.now _)
    rw [if_neg hlt]
    obtain ⟨r, hr, ht⟩ := one_ev s hs p (by omega)
    unfold OneTells at ht
    refine Ev.step (fun k => by simp only [davitref11_Cut.l0]; rw [if_pos (by simp; omega)]) (Ev.bind hr ?_)
    cases ho1 : oneR s p with
    | mk x q =>
      rw [ho1] at ht
      cases x with
      | none =>
        simp only at ht ⊢
        refine Ev.congr (f := fun _ => some (([] : List S119), (q : Int), (2 : Int))) (fun k => ?_) (Ev.now _)
        rw [ht, if_pos (by omega)]
      | some x =>
        simp only at ht ⊢
        have hgt := oneR_gt ho1
        have hsk := skipAt_ge s q hgt.2
        subst ht
        have h2 := skip_ev s hs _ q false rfl hgt.2
        have h3 := ih (skipAt s q) (out ++ [x]) (by omega) hsk.2 (by simp; omega)
        refine Ev.congr (f := fun k => (davitref11_Skip.f k (nb s) (q : Int)).bind fun t => davitref11_Cut.l0 k (nb s) ((out ++ [x]).map refTok) t) (fun k => ?_) (Ev.bind h2 h3)
        rw [if_neg (by simp), if_pos (by simp; omega)]
        simp [refTok]
theorem refcut_ev (s : List UInt8) (hs : s.length ≤ 1000000) : Ev (fun k => davitref11_Cut.f k (nb s)) ((cutV s).1.map refTok, ((cutV s).2.1 : Int), ((cutV s).2.2 : Int)) := by
  by_cases h : 2000 < s.length
  · refine Ev.congr (f := fun _ => some (([] : List S119), (0 : Int), (3 : Int))) (fun k => by unfold davitref11_Cut.f; rw [if_pos (by simp; omega)]) ?_
    unfold cutV
    rw [if_pos h]
    exact Ev.now _
  · have h1 := skip_ev s hs _ 0 false rfl (Nat.zero_le _)
    have hsk := skipAt_ge s 0 (Nat.zero_le _)
    have h2 := cut_ev s hs _ (skipAt s 0) [] (Nat.le_refl _) hsk.2 (by simp)
    have h3 : ((cutV s).1.map refTok, ((cutV s).2.1 : Int), ((cutV s).2.2 : Int)) = rres (cutR s (skipAt s 0) []) := by
      unfold cutV
      rw [if_neg h]
      cases cutR s (skipAt s 0) [] <;> rfl
    rw [h3]
    refine Ev.congr (f := fun k => (davitref11_Skip.f k (nb s) ((0 : Nat) : Int)).bind fun t => davitref11_Cut.l0 k (nb s) (([] : List TokV).map refTok) t) (fun k => ?_) (Ev.bind h1 h2)
    unfold davitref11_Cut.f
    rw [if_neg (by simp; omega)]
    rfl
theorem rd_tok (l : List TokV) (i : Nat) (t : TokV) (h : l[i]? = some t) : rd_T52 (l.map lexTok) (i : Int) = lexTok t := by
  unfold rd_T52
  simp [List.getD, h]
theorem as_ev (l : List TokV) (hl : l.length ≤ 1000000) : ∀ (d j : Nat), l.length - j = d → j ≤ l.length → Ev (fun k => davitlaw11_As.l0 k (l.map lexTok) ((l.take j).map refTok) (j : Int)) (l.map refTok) := by
  intro d
  induction d with
  | zero =>
    intro j hd hj
    obtain rfl : j = l.length := by omega
    rw [List.take_length]
    exact Ev.step (f := fun _ => some (l.map refTok)) (fun k => by simp only [davitlaw11_As.l0]; rw [if_neg (by simp)]) (Ev.now _)
  | succ d ih =>
    intro j hd hj
    have hx := List.getElem?_eq_getElem (show j < l.length by omega)
    have h2 : (l.take (j + 1)).map refTok = (l.take j).map refTok ++ [refTok l[j]] := by rw [List.take_add_one, hx, List.map_append]; rfl
    refine Ev.step (f := fun k => davitlaw11_As.l0 k (l.map lexTok) ((l.take (j + 1)).map refTok) ((j + 1 : Nat) : Int)) (fun k => ?_) (ih (j + 1) (by omega) (by omega))
    simp only [davitlaw11_As.l0]
    rw [if_pos (by simp; omega), if_pos (by omega), if_pos (by simp; omega), rd_tok l j _ hx, show wrap64 ((j : Int) + 1) = ((j + 1 : Nat) : Int) by rw [wrap_in (by omega) (by omega)]; omega, h2]
    rfl
def tokIn (t : TokV) : Prop := 0 ≤ t.kind ∧ t.kind ≤ 3 ∧ 0 ≤ t.at_ ∧ t.at_ ≤ 1000000 ∧ 0 ≤ t.n ∧ t.n ≤ 1000000
theorem oneR_in {s : List UInt8} (hs : s.length ≤ 1000000) {p q : Nat} {x : TokV} (h : oneR s p = (some x, q)) : tokIn x := by
  have hgt := oneR_gt h
  unfold oneR at h
  cases hc : s[p]? with
  | none => rw [hc] at h; cases h
  | some c =>
    rw [hc] at h
    simp only at h
    split at h
    · split at h
      · injection h with h _
        injection h with h
        subst h
        exact ⟨by dsimp only; omega, by dsimp only; omega, by dsimp only; omega, by dsimp only; omega, by dsimp only; omega, by dsimp only; omega⟩
      · cases h
    split at h
    · split at h
      · cases h
      · injection h with h _
        injection h with h
        subst h
        exact ⟨by dsimp only; omega, by dsimp only; omega, by dsimp only; omega, by dsimp only; omega, by dsimp only; omega, by dsimp only; omega⟩
    · split at h
      · cases h
      · rename_i h3
        injection h with h _
        injection h with h
        subst h
        have hlen : ((s.drop p).take (spanV digitB s p)).length ≤ spanV digitB s p := by simp; omega
        have := decOf_lt ((s.drop p).take (spanV digitB s p)) (fun x hx => span_mem hx) 4 (by omega)
        exact ⟨by dsimp only; omega, by dsimp only; omega, by dsimp only; omega, by dsimp only; omega, by dsimp only; omega, by dsimp only; omega⟩
theorem cutF_in {s : List UInt8} (hs : s.length ≤ 1000000) : ∀ (n p : Nat) (out l : List TokV), (∀ t ∈ out, tokIn t) → cutF n s p out = .inr l → ∀ t ∈ l, tokIn t
  | 0, p, out, l, ho, h => by
    unfold cutF at h
    injection h with h
    subst h
    exact ho
  | n + 1, p, out, l, ho, h => by
    unfold cutF at h
    split at h
    · injection h with h
      subst h
      exact ho
    · split at h
      · cases h
      · rename_i x q hq
        refine cutF_in hs n _ _ l (fun t ht => ?_) h
        rcases List.mem_append.1 ht with ht | ht
        · exact ho t ht
        · obtain rfl : t = x := by simpa using ht
          exact oneR_in hs hq
theorem cutV_in {s : List UInt8} (hs : s.length ≤ 1000000) : ∀ t ∈ (cutV s).1, tokIn t := by
  unfold cutV
  split
  · intro t ht; simp at ht
  · cases h : cutR s (skipAt s 0) [] with
    | inl q => intro t ht; simp [resOf] at ht
    | inr l => exact cutF_in hs _ _ [] l (fun t ht => by simp at ht) h
theorem cutV_len {s : List UInt8} : ∀ (n p : Nat) (out l : List TokV), out.length ≤ p → p ≤ s.length → cutF n s p out = .inr l → l.length ≤ s.length
  | 0, p, out, l, ho, hp, h => by
    unfold cutF at h
    injection h with h
    subst h
    omega
  | n + 1, p, out, l, ho, hp, h => by
    unfold cutF at h
    split at h
    · injection h with h
      subst h
      omega
    · split at h
      · cases h
      · rename_i x q hq
        have hgt := oneR_gt hq
        have hsk := skipAt_ge s q hgt.2
        exact cutV_len n _ _ l (by simp; omega) hsk.2 h
theorem cutV_len' (s : List UInt8) : (cutV s).1.length ≤ s.length := by
  unfold cutV
  split
  · simp
  · cases h : cutR s (skipAt s 0) [] with
    | inl q => simp [resOf]
    | inr l => exact cutV_len _ _ [] l (by simp) (skipAt_ge s 0 (Nat.zero_le _)).2 h
theorem same_eq (l : List TokV) (h : ∀ t ∈ l, tokIn t) : davitref11_Same.f (l.map refTok) (l.map refTok) = some true := by
  have : ∀ m : List TokV, (∀ t ∈ m, tokIn t) → davitref11_Same.eq (m.map refTok) (m.map refTok) = true := by
    intro m
    induction m with
    | nil => intro _; rfl
    | cons t m ih =>
      intro hm
      simp only [List.map_cons, davitref11_Same.eq, Bool.and_eq_true]
      refine ⟨?_, ih (fun t ht => hm t (by simp [ht]))⟩
      obtain ⟨h1, h2, h3, h4, h5, h6⟩ := hm t (by simp)
      have a1 : i64B t.kind = true := by simp [i64B]; omega
      have a2 : i64B t.at_ = true := by simp [i64B]; omega
      have a3 : i64B t.n = true := by simp [i64B]; omega
      simp [tokEq, refTok, a1, a2, a3]
  unfold davitref11_Same.f
  rw [if_pos (this l h)]
theorem lexcut_eq (s : List UInt8) : lex_Cut.f (nb s) = some ((cutV s).1.map lexTok, ((cutV s).2.1 : Int), ((cutV s).2.2 : Int)) := by
  unfold lex_Cut.f
  rw [if_pos (okB_nb s), toB_nb]
theorem lexCuts_pure (s : List UInt8) : ∃ k, davitlaw11_LexCuts.f k (nb s) = some true := by
  by_cases hbig : 3000 < s.length
  · exact ⟨0, by unfold davitlaw11_LexCuts.f; rw [if_pos (by simp; omega)]; rfl⟩
  have hs : s.length ≤ 1000000 := by omega
  refine Ev.rounds (g := fun k => davitlaw11_LexCuts.f k (nb s)) ?_
  have e1 := refcut_ev s hs
  have e2 := as_ev (cutV s).1 (by have := cutV_len' s; omega) _ 0 rfl (Nat.zero_le _)
  refine Ev.congr (f := fun k => (davitref11_Cut.f k (nb s)).bind fun bt => (davitlaw11_As.l0 k ((cutV s).1.map lexTok) (((cutV s).1.take 0).map refTok) ((0 : Nat) : Int)).bind fun t => (davitref11_Same.f t bt.1).bind fun u => if u = true then (if ((cutV s).2.1 : Int) = bt.2.1 then (if ((cutV s).2.2 : Int) = bt.2.2 then ((davitlaw11_knows.f).bind fun t => some t) else some false) else some false) else some false) (fun k => ?_) (Ev.bind e1 (Ev.bind e2 ?_))
  · unfold davitlaw11_LexCuts.f
    rw [if_neg (by simp; omega), lexcut_eq]
    rfl
  · refine Ev.congr (f := fun _ => some true) (fun k => ?_) (Ev.now _)
    rw [same_eq _ (cutV_in hs)]
    simp [davitlaw11_knows.f]
end Go.Proofs.Ytpcapijakenjbaa.Pure
