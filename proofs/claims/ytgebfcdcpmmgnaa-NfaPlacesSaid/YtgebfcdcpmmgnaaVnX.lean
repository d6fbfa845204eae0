/- patterns and instructions: what is read may be built; where instructions go on. -/
import Derived.Test.YtgebfcdcpmmgnaaVnW
set_option linter.unusedVariables false
set_option linter.unusedSimpArgs false
namespace Go.Proofs.Ytgebfcdcpmmgnaa.Vs
open Go.RowKit
set_option maxRecDepth 100000
/-! ### What is read may be built -/
theorem cntN_app (l m : List OpS) : cntN (l ++ m) = m.foldl cntS (cntN l) := by unfold cntN; rw [List.foldl_append]
theorem manyN_app (l m : List OpS) : manyN (l ++ m) = m.foldl (fun n o => n + manyI o.kind) (manyN l) := by unfold manyN; rw [List.foldl_append]
theorem cntS_ok {n : Int} {o : OpS} (h1 : 0 ≤ takesI o.kind) (h2 : takesI o.kind ≤ n) : cntS (some n) o = some (n - takesI o.kind + 1) := by
  show (if takesI o.kind < 0 ∨ n < takesI o.kind then none else some (n - takesI o.kind + 1)) = _
  rw [if_neg (by omega)]
def lvH (p : LevS) : Int := (if 0 < p.1 then 1 else 0) + (if 0 < p.2 then 1 else 0)
def lvB (p : LevS) : Int := if 0 < p.1 then 2 else 0
def sumL (f : LevS → Int) (l : List LevS) : Int := (l.map f).sum
theorem sumL_cons (f : LevS → Int) (p : LevS) (l : List LevS) : sumL f (p :: l) = f p + sumL f l := by simp [sumL]
theorem sumL_nonneg {f : LevS → Int} (h : ∀ p, 0 ≤ f p) : ∀ l, 0 ≤ sumL f l
  | [] => by simp [sumL]
  | p :: l => by rw [sumL_cons]; have := h p; have := sumL_nonneg h l; omega
theorem lvH_nn (p : LevS) : 0 ≤ lvH p := by unfold lvH; (repeat' split) <;> omega
theorem lvB_nn (p : LevS) : 0 ≤ lvB p := by unfold lvB; split <;> omega
/-- The end of a branch: one is left of it. -/
theorem end_cnt (l : List OpS) (p : LevS) (n : Int) (hn : 0 ≤ n) (hp : 0 ≤ p.1 ∧ 0 ≤ p.2) (h : cntN l = some (lvH p + n)) : cntN (l ++ endOps p) = some (1 + n) := by
  rw [cntN_app, h]
  unfold endOps lvH
  by_cases h1 : p.2 = 0 <;> by_cases h2 : 0 < p.1
  · rw [if_pos h1, if_pos h2, if_pos h2, if_neg (by omega)]
    simp only [List.cons_append, List.nil_append, List.foldl_cons, List.foldl_nil]
    rw [cntS_ok (by decide) (by show (0 : Int) ≤ _; omega), cntS_ok (by decide) (by show (2 : Int) ≤ _; show (2 : Int) ≤ 1 + 0 + n - 0 + 1; omega)]
    congr 1
    show 1 + 0 + n - 0 + 1 - 2 + 1 = 1 + n
    omega
  · rw [if_pos h1, if_neg h2, if_neg h2, if_neg (by omega)]
    simp only [List.append_nil, List.foldl_cons, List.foldl_nil]
    rw [cntS_ok (by decide) (by show (0 : Int) ≤ _; omega)]
    congr 1
    show 0 + 0 + n - 0 + 1 = 1 + n
    omega
  · rw [if_neg h1, if_pos h2, if_pos h2, if_pos (by omega)]
    simp only [List.nil_append, List.foldl_cons, List.foldl_nil]
    rw [cntS_ok (by decide) (by show (2 : Int) ≤ _; omega)]
    congr 1
    show 1 + 1 + n - 2 + 1 = 1 + n
    omega
  · rw [if_neg h1, if_neg h2, if_neg h2, if_pos (by omega)]
    simp only [List.append_nil, List.foldl_nil]
    congr 1
    try omega
theorem rep_takes (c : UInt8) (h : 0 < repK c) : takesI (repK c) = 1 ∧ manyI (repK c) ≤ 2 := by
  rcases repK_le c with h1 | h1
  · omega
  · have : repK c = 5 ∨ repK c = 6 ∨ repK c = 7 := by omega
    rcases this with e | e | e <;> rw [e] <;> decide
/-- A piece behind a level's pieces. -/
theorem piece_cnt (s : List UInt8) (pos : Nat) (l : List OpS) (p : LevS) (n : Int) (hn : 0 ≤ n) (hp : 0 ≤ p.1 ∧ 0 ≤ p.2) (h : cntN l = some (1 + (lvH p + n))) : cntN (pieceO (repO s pos l) p) = some (lvH (p.1, p.2 + 1) + n) := by
  have hH := lvH_nn p
  have h1 : cntN (repO s pos l) = some (1 + (lvH p + n)) := by
    unfold repO
    split
    · rename_i hr
      unfold isRep at hr
      simp only [Bool.and_eq_true, decide_eq_true_eq] at hr
      have hk := (rep_takes _ hr.2).1
      rw [cntN_app, h]
      simp only [List.foldl_cons, List.foldl_nil]
      rw [cntS_ok (by simp only [hk]; decide) (by simp only [hk]; omega)]
      simp only [hk]
      congr 1
      omega
    · exact h
  unfold pieceO
  split
  · rename_i hp2
    rw [cntN_app, h1]
    simp only [List.foldl_cons, List.foldl_nil]
    have : 1 ≤ lvH p := by unfold lvH; rw [if_pos hp2]; split <;> omega
    rw [cntS_ok (by decide) (by show (2 : Int) ≤ _; omega)]
    congr 1
    show 1 + (lvH p + n) - 2 + 1 = _
    unfold lvH
    rw [if_pos hp2, if_pos (show 0 < p.2 + 1 by omega)]
    omega
  · rename_i hp2
    rw [h1]
    congr 1
    unfold lvH
    rw [if_neg hp2, if_pos (show 0 < p.2 + 1 by omega)]
    omega
theorem end_many (l : List OpS) (p : LevS) : manyN (l ++ endOps p) = manyN l + lvB p := by
  rw [manyN_app]
  unfold endOps lvB
  by_cases h1 : p.2 = 0 <;> by_cases h2 : 0 < p.1
  · rw [if_pos h1, if_pos h2, if_pos h2]; show manyN l + 0 + 2 = _; omega
  · rw [if_pos h1, if_neg h2, if_neg h2]; show manyN l + 0 = _; omega
  · rw [if_neg h1, if_pos h2, if_pos h2]; rfl
  · rw [if_neg h1, if_neg h2, if_neg h2]; show manyN l = _; omega
theorem piece_many (s : List UInt8) (pos : Nat) (l : List OpS) (p : LevS) : manyN (pieceO (repO s pos l) p) ≤ manyN l + 2 * ((repP s pos : Int) - pos) := by
  have h1 : manyN (repO s pos l) ≤ manyN l + 2 * ((repP s pos : Int) - pos) := by
    unfold repO repP
    cases hr : isRep s pos with
    | true =>
      simp only [if_true]
      unfold isRep at hr
      simp only [Bool.and_eq_true, decide_eq_true_eq] at hr
      have hk := (rep_takes _ hr.2).2
      rw [manyN_app]
      simp only [List.foldl_cons, List.foldl_nil]
      omega
    | false =>
      simp only [Bool.false_eq_true, if_false]
      omega
  unfold pieceO
  split
  · rw [manyN_app]
    show manyN (repO s pos l) + 0 ≤ _
    omega
  · exact h1
structure RgC (st : RgS) : Prop where
  cnt : cntN st.out = some (sumL lvH (st.top :: st.lv))
  many : manyN st.out + sumL lvB (st.top :: st.lv) ≤ 1 + 3 * (st.pos : Int)
theorem bytesS_one (s : List UInt8) (pos : Nat) (o : OpS) (q : Nat) (h : bytesS s pos = (some o, q)) : o.kind = 1 := by
  unfold bytesS at h
  split at h
  · cases h
  split at h
  · unfold setR at h
    injection h with h1 h2
    obtain ⟨l, hl, rfl⟩ := Option.map_eq_some_iff.1 h1
    rfl
  split at h
  · injection h with h _; injection h with h; subst h; rfl
  split at h
  · split at h
    · injection h with h _; injection h with h; subst h; rfl
    · split at h
      · injection h with h _; injection h with h; subst h; rfl
      · cases h
  · injection h with h _; injection h with h; subst h; rfl
theorem stepR_cnt (s : List UInt8) (st : RgS) (hI : RgI s st) (hC : RgC st) (hp : st.pos < s.length) (h : (stepR s st).1 = 0) : RgC (stepR s st).2 := by
  obtain ⟨i1, i2, i3, i4⟩ := hI
  obtain ⟨hc, hm⟩ := hC
  have hnn := sumL_nonneg lvH_nn st.lv
  have hbb := sumL_nonneg lvB_nn st.lv
  have ht := i4 st.top (by simp)
  rw [sumL_cons] at hc hm
  unfold stepR at *
  by_cases c1 : (s.getD st.pos 0).toNat = 40
  · rw [if_pos c1] at h ⊢
    by_cases c2 : 8 < st.lv.length + 1
    · rw [if_pos c2] at h; cases h
    · rw [if_neg c2]
      refine ⟨?_, ?_⟩
      · simp only [sumL_cons]
        rw [hc, show lvH (0, 0) = 0 from rfl, Int.zero_add]
      · simp only [sumL_cons]
        rw [show lvB (0, 0) = 0 from rfl]
        omega
  rw [if_neg c1] at h ⊢
  by_cases c2 : (s.getD st.pos 0).toNat = 124
  · rw [if_pos c2]
    refine ⟨?_, ?_⟩
    · simp only [sumL_cons]
      rw [end_cnt st.out st.top _ hnn (by omega) hc]
      congr 1
      unfold lvH
      simp only
      rw [if_pos (by omega), if_neg (by omega)]
      omega
    · simp only [sumL_cons]
      rw [end_many]
      have : lvB (st.top.1 + 1, 0) = 2 := if_pos (by simp only; omega)
      rw [this]
      omega
  rw [if_neg c2] at h ⊢
  by_cases c3 : (s.getD st.pos 0).toNat = 41
  · rw [if_pos c3] at h ⊢
    cases hl : st.lv with
    | nil => rw [hl] at h; cases h
    | cons p r =>
      rw [hl] at hc hm hnn hbb i4
      rw [sumL_cons] at hc hm hnn hbb
      have hr := sumL_nonneg lvH_nn r
      have hp1 := i4 p (by simp)
      have hq := repP_le s (st.pos + 1) (by omega)
      refine ⟨?_, ?_⟩
      · simp only [sumL_cons]
        exact piece_cnt s (st.pos + 1) _ p _ hr (by omega) (end_cnt st.out st.top _ hnn (by omega) hc)
      · simp only [sumL_cons]
        have h1 := piece_many s (st.pos + 1) (st.out ++ endOps st.top) p
        rw [end_many] at h1
        have : lvB (p.1, p.2 + 1) = lvB p := rfl
        rw [this]
        omega
  rw [if_neg c3] at h ⊢
  cases hb : bytesS s st.pos with
  | mk o q =>
    cases o with
    | none => rw [hb] at h; cases h
    | some o =>
      have h0 := bytesS_lt s st.pos o q hp hb
      have hk := bytesS_one s st.pos o q hb
      have hq := repP_le s q h0.2
      refine ⟨?_, ?_⟩
      · simp only [sumL_cons]
        refine piece_cnt s q _ st.top _ hnn (by omega) ?_
        rw [cntN_app, hc]
        simp only [List.foldl_cons, List.foldl_nil]
        have hH := lvH_nn st.top
        rw [cntS_ok (by rw [hk]; decide) (by rw [hk]; show (0 : Int) ≤ _; omega), hk]
        congr 1
        show lvH st.top + sumL lvH st.lv - 0 + 1 = _
        omega
      · simp only [sumL_cons]
        have h1 := piece_many s q (st.out ++ [o]) st.top
        rw [manyN_app] at h1
        simp only [List.foldl_cons, List.foldl_nil, hk] at h1
        have : lvB (st.top.1, st.top.2 + 1) = lvB st.top := rfl
        rw [this]
        have hk1 : manyI 1 = 1 := rfl
        rw [hk1] at h1
        omega
theorem runR_cnt (s : List UInt8) : ∀ (n : Nat) (st : RgS), RgI s st → RgC st → s.length < st.pos + n → (runR s n st).1 = 0 → RgI s (runR s n st).2 ∧ RgC (runR s n st).2
  | 0, st, hI, _, hn, _ => by have := hI.pos; omega
  | n + 1, st, hI, hC, hn, h => by
    unfold runR at h ⊢
    by_cases hp : st.pos < s.length
    · rw [if_pos hp] at h ⊢
      by_cases he : (stepR s st).1 = 0
      · rw [if_pos he] at h ⊢
        have h1 := stepR_ok s st hI hp he
        exact runR_cnt s n _ h1.1 (stepR_cnt s st hI hC hp he) (by omega) h
      · rw [if_neg he] at h
        exact absurd h he
    · rw [if_neg hp]
      exact ⟨hI, hC⟩
/-- What is read may be built, and is no longer than so. -/
theorem parseS_cnt (s : List UInt8) (h : (parseS s).2.2 = 0) : s.length ≤ 80 ∧ cntN (parseS s).1 = some 1 ∧ manyN (parseS s).1 ≤ 1 + 3 * (s.length : Int) ∧ (parseS s).1.length ≤ 4 * s.length + 2 := by
  unfold parseS at *
  by_cases h1 : 80 < s.length
  · rw [if_pos h1] at h; cases h
  rw [if_neg h1] at h ⊢
  by_cases h2 : (runR0 s).1 = 0
  · rw [if_neg (by simpa using h2)] at h ⊢
    by_cases h3 : (runR0 s).2.lv = []
    · rw [if_neg (by simpa using h3)]
      have hI : RgI s ⟨0, [], [], (0, 0)⟩ := ⟨Nat.zero_le _, Nat.le_refl _, Nat.zero_le _, by simp⟩
      have hC : RgC ⟨0, [], [], (0, 0)⟩ := ⟨rfl, by simp only [sumL_cons]; show (1 : Int) + (0 + 0) ≤ 1 + 3 * ((0 : Nat) : Int); omega⟩
      obtain ⟨r1, r2⟩ := runR_cnt s (s.length + 1) _ hI hC (by simp only; omega) h2
      obtain ⟨i1, i2, i3, i4⟩ := r1
      obtain ⟨hc, hm⟩ := r2
      unfold runR0 at *
      have ht := i4 _ (List.mem_cons_self ..)
      rw [h3, sumL_cons] at hc hm
      have z1 : sumL lvH [] = 0 := rfl
      have z2 : sumL lvB [] = 0 := rfl
      rw [z1] at hc
      rw [z2] at hm
      have he := endOps_len (runR s (s.length + 1) ⟨0, [], [], (0, 0)⟩).2.top
      refine ⟨by omega, ?_, ?_, ?_⟩
      · exact end_cnt _ _ 0 (by decide) (by omega) hc
      · simp only
        rw [end_many]
        omega
      · simp only [List.length_append]
        omega
    · rw [if_pos h3] at h; cases h
  · rw [if_pos h2] at h
    exact absurd h h2
theorem setS_len (s : List UInt8) : ∀ (n pos : Nat) (acc l : List SpanS) (q : Nat), setS s n pos acc = (some l, q) → l.length + pos ≤ acc.length + q
  | 0, _, _, _, _, h => by cases h
  | n + 1, pos, acc, l, q, h => by
    unfold setS at h
    split at h
    · injection h with h1 h2
      injection h1 with h1
      subst h1; subst h2
      omega
    · split at h
      · cases h
      · rename_i x q1 hx
        have h1 := span_lt s pos x q1 hx
        have h2 := setS_len s n q1 _ l q h
        simp only [List.length_append, List.length_cons, List.length_nil] at h2
        omega
theorem bytesS_sp (s : List UInt8) (pos : Nat) (o : OpS) (q : Nat) (hp : pos < s.length) (h : bytesS s pos = (some o, q)) : o.spans.length ≤ s.length + 4 := by
  unfold bytesS at h
  split at h
  · cases h
  split at h
  · unfold setR at h
    injection h with h1 h2
    obtain ⟨l, hl, rfl⟩ := Option.map_eq_some_iff.1 h1
    have h3 : setS s (s.length + 1) (caretP s (pos + 1)) [] = (some l, q) := by rw [← h2, ← hl]
    have h4 := setS_lt s _ _ _ _ _ h3
    have h5 := setS_len s _ _ _ _ _ h3
    simp only [List.length_nil] at h5
    simp only
    omega
  split at h
  · injection h with h _; injection h with h; subst h; simp
  split at h
  · split at h
    · injection h with h _; injection h with h; subst h
      show (classS (s.getD (pos + 1) 0)).length ≤ _
      unfold classS
      (repeat' split) <;> simp
    · split at h
      · injection h with h _; injection h with h; subst h; simp
      · cases h
  · injection h with h _; injection h with h; subst h; simp
theorem end_sp (B : Nat) (l : List OpS) (p : LevS) (h : ∀ o ∈ l, o.spans.length ≤ B) : ∀ o ∈ l ++ endOps p, o.spans.length ≤ B := fun o ho => by
  rcases List.mem_append.1 ho with ho | ho
  · exact h o ho
  · unfold endOps at ho
    have : o.spans = [] := by
      rcases List.mem_append.1 ho with ho | ho <;> split at ho
      · rw [List.mem_singleton] at ho; subst ho; rfl
      · cases ho
      · rw [List.mem_singleton] at ho; subst ho; rfl
      · cases ho
    rw [this]; exact Nat.zero_le _
theorem piece_sp (B : Nat) (s : List UInt8) (pos : Nat) (l : List OpS) (p : LevS) (h : ∀ o ∈ l, o.spans.length ≤ B) : ∀ o ∈ pieceO (repO s pos l) p, o.spans.length ≤ B := by
  have h1 : ∀ o ∈ repO s pos l, o.spans.length ≤ B := fun o ho => by
    unfold repO at ho
    split at ho
    · rcases List.mem_append.1 ho with ho | ho
      · exact h o ho
      · rw [List.mem_singleton] at ho; subst ho; exact Nat.zero_le _
    · exact h o ho
  intro o ho
  unfold pieceO at ho
  split at ho
  · rcases List.mem_append.1 ho with ho | ho
    · exact h1 o ho
    · rw [List.mem_singleton] at ho; subst ho; exact Nat.zero_le _
  · exact h1 o ho
theorem stepR_sp (s : List UInt8) (st : RgS) (hp : st.pos < s.length) (h : ∀ o ∈ st.out, o.spans.length ≤ s.length + 4) : ∀ o ∈ (stepR s st).2.out, o.spans.length ≤ s.length + 4 := by
  unfold stepR
  by_cases c1 : (s.getD st.pos 0).toNat = 40
  · rw [if_pos c1]; split <;> exact h
  rw [if_neg c1]
  by_cases c2 : (s.getD st.pos 0).toNat = 124
  · rw [if_pos c2]; exact end_sp _ _ _ h
  rw [if_neg c2]
  by_cases c3 : (s.getD st.pos 0).toNat = 41
  · rw [if_pos c3]
    split
    · exact h
    · exact piece_sp _ _ _ _ _ (end_sp _ _ _ h)
  rw [if_neg c3]
  split
  · exact h
  · rename_i o q hb
    refine piece_sp _ _ _ _ _ fun x hx => ?_
    rcases List.mem_append.1 hx with hx | hx
    · exact h x hx
    · rw [List.mem_singleton] at hx; subst hx; exact bytesS_sp s _ _ _ hp hb
theorem runR_sp (s : List UInt8) : ∀ (n : Nat) (st : RgS), (∀ o ∈ st.out, o.spans.length ≤ s.length + 4) → ∀ o ∈ (runR s n st).2.out, o.spans.length ≤ s.length + 4
  | 0, _, h => h
  | n + 1, st, h => by
    unfold runR
    split
    · rename_i hp
      split
      · exact runR_sp s n _ (stepR_sp s st hp h)
      · exact stepR_sp s st hp h
    · exact h
theorem parseS_ops (s : List UInt8) : ∀ o ∈ (parseS s).1, o.spans.length ≤ s.length + 4 := by
  unfold parseS
  split
  · intro o ho; cases ho
  split
  · intro o ho; cases ho
  split
  · intro o ho; cases ho
  · exact end_sp _ _ _ (runR_sp s _ _ (by simp))
/-! ### Where instructions go on -/
/-- An instruction at a place goes on within len. -/
def okI (len at_ : Int) (i : InstS) : Prop := i.kind = 1 ∨ i.kind = 2 ∧ (0 ≤ at_ + i.x ∧ at_ + i.x ≤ len) ∧ (0 ≤ at_ + i.y ∧ at_ + i.y ≤ len) ∨ i.kind = 3 ∧ 0 ≤ at_ + i.x ∧ at_ + i.x ≤ len
def okL (len : Int) : Int → List InstS → Prop
  | _, [] => True
  | a, i :: l => okI len a i ∧ okL len (a + 1) l
theorem okL_app {len : Int} : ∀ {x y : List InstS} {a : Int}, okL len a x → okL len (a + x.length) y → okL len a (x ++ y)
  | [], y, a, _, h => by simpa using h
  | i :: x, y, a, h, k => by
    refine ⟨h.1, okL_app h.2 ?_⟩
    rw [show a + 1 + (x.length : Int) = a + ((i :: x).length : Int) by simp only [List.length_cons]; omega]
    exact k
theorem okL_shift {n m d : Int} (hd : 0 ≤ d) (hm : n + d ≤ m) : ∀ {x : List InstS} {a b : Int}, okL n a x → b = a + d → okL m b x
  | [], _, _, _, _ => trivial
  | i :: x, a, b, h, e => by
    refine ⟨?_, okL_shift hd hm h.2 (by omega)⟩
    rcases h.1 with h | ⟨h1, h2, h3⟩ | ⟨h1, h2⟩
    · exact .inl h
    · exact .inr (.inl ⟨h1, by omega, by omega⟩)
    · exact .inr (.inr ⟨h1, by omega⟩)
theorem okL_at {n : Int} : ∀ {x : List InstS} {a : Int} {k : Nat} {i : InstS}, okL n a x → x[k]? = some i → okI n (a + k) i
  | [], _, _, _, _, h => by simp at h
  | j :: x, a, 0, i, h, e => by
    simp at e; subst e
    rw [show a + ((0 : Nat) : Int) = a by simp]
    exact h.1
  | j :: x, a, k + 1, i, h, e => by
    have := okL_at h.2 (by simpa using e : x[k]? = some i)
    rw [show a + ((k + 1 : Nat) : Int) = a + 1 + k by omega]
    exact this
/-- A piece whose instructions go on within it, or behind it. -/
def okP (x : List InstS) : Prop := okL x.length 0 x
theorem okP_app {a b : List InstS} (ha : okP a) (hb : okP b) : okP (a ++ b) := by
  unfold okP at *
  refine okL_app (okL_shift (d := 0) (by omega) (by simp; omega) ha (by omega)) (okL_shift (d := a.length) (by omega) (by simp; omega) hb (by omega))
theorem okP_alt {a b : List InstS} (ha : okP a) (hb : okP b) : okP (altL a b) := by
  have hl : ((altL a b).length : Int) = a.length + b.length + 2 := by simp [altL]; omega
  unfold okP at *
  rw [hl]
  unfold altL
  refine ⟨.inr (.inl ⟨rfl, by simp only; omega, by simp only; omega⟩), okL_app (okL_shift (d := 1) (by omega) (by omega) ha (by omega)) ⟨.inr (.inr ⟨rfl, by simp only; omega⟩), okL_shift (d := a.length + 2) (by omega) (by omega) hb (by omega)⟩⟩
theorem okP_star {a : List InstS} (ha : okP a) : okP (starL a) := by
  have hl : ((starL a).length : Int) = a.length + 2 := by simp [starL]; omega
  unfold okP at *
  rw [hl]
  unfold starL
  refine ⟨.inr (.inl ⟨rfl, by simp only; omega, by simp only; omega⟩), okL_app (okL_shift (d := 1) (by omega) (by omega) ha (by omega)) ⟨.inr (.inr ⟨rfl, by simp only; omega⟩), trivial⟩⟩
theorem okP_plus {a : List InstS} (ha : okP a) : okP (plusL a) := by
  have hl : ((plusL a).length : Int) = a.length + 1 := by simp [plusL]
  unfold okP at *
  rw [hl]
  unfold plusL
  refine okL_app (okL_shift (d := 0) (by omega) (by omega) ha (by omega)) ⟨.inr (.inl ⟨rfl, by simp only; omega, by simp only; omega⟩), trivial⟩
theorem okP_opt {a : List InstS} (ha : okP a) : okP (optL a) := by
  have hl : ((optL a).length : Int) = a.length + 1 := by simp [optL]
  unfold okP at *
  rw [hl]
  unfold optL
  exact ⟨.inr (.inl ⟨rfl, by simp only; omega, by simp only; omega⟩), okL_shift (d := 1) (by omega) (by omega) ha (by omega)⟩
theorem runP_ok (l : List OpS) : ∀ sp, runP l = some sp → ∀ x ∈ sp, okP x := by
  suffices h : ∀ m : List OpS, ∀ sp, runP m.reverse = some sp → ∀ x ∈ sp, okP x by
    have := h l.reverse
    rwa [List.reverse_reverse] at this
  intro m
  induction m with
  | nil => intro sp h x hx; cases h; cases hx
  | cons o m ih =>
    intro sp h
    rw [List.reverse_cons, runP_snoc] at h
    cases hp : runP m.reverse with
    | none => rw [hp] at h; cases h
    | some s =>
      rw [hp] at h
      have hq := ih s hp
      have h : stepP o s = some sp := h
      have key : ∀ (y : List InstS) (r : List (List InstS)), some (y :: r) = some sp → okP y → (∀ x ∈ r, x ∈ s) → ∀ x ∈ sp, okP x := fun y r e hy hr x hx => by
        injection e with e
        subst e
        rcases List.mem_cons.1 hx with rfl | hx
        · exact hy
        · exact hq x (hr x hx)
      unfold stepP at h
      split at h
      · exact key _ _ h ⟨.inl rfl, trivial⟩ (fun x hx => hx)
      split at h
      · exact key _ _ h trivial (fun x hx => hx)
      split at h
      · split at h
        · rename_i b a r _
          exact key _ _ h (okP_app (hq a (by simp)) (hq b (by simp))) (fun x hx => by simp [hx])
        · cases h
      split at h
      · split at h
        · rename_i b a r _
          exact key _ _ h (okP_alt (hq a (by simp)) (hq b (by simp))) (fun x hx => by simp [hx])
        · cases h
      split at h
      · split at h
        · rename_i a r _
          exact key _ _ h (okP_star (hq a (by simp))) (fun x hx => by simp [hx])
        · cases h
      split at h
      · split at h
        · rename_i a r _
          exact key _ _ h (okP_plus (hq a (by simp))) (fun x hx => by simp [hx])
        · cases h
      split at h
      · split at h
        · rename_i a r _
          exact key _ _ h (okP_opt (hq a (by simp))) (fun x hx => by simp [hx])
        · cases h
      · cases h
/-- What is built of what is read. -/
theorem built (s : List UInt8) (h : (parseS s).2.2 = 0) : (200 < manyN (parseS s).1 ∧ buildS (parseS s).1 = ([], 3)) ∨ ∃ x, okP x ∧ (x.length : Int) + 1 ≤ 3 * (s.length : Int) + 1 ∧ buildS (parseS s).1 = (x ++ [doneI], 0) := by
  obtain ⟨h1, h2, h3, h4⟩ := parseS_cnt s h
  rcases buildS_eq (parseS s).1 with ⟨k1, _⟩ | ⟨_, k2, k3⟩ | ⟨_, k2, x, k3, k4⟩
  · exact absurd h2 k1
  · exact .inl ⟨k2, k3⟩
  · refine .inr ⟨x, runP_ok _ _ k3 x (by simp), ?_, k4⟩
    have := runN_runP (parseS s).1
    rw [k3] at this
    obtain ⟨st, r1, r2, r3, r4, r5⟩ := this
    have r6 := r5 (by omega)
    subst r6
    have hfit : ∀ (l : List OpS) (p q : Pile), runN l p = some q → (total p.1 : Int) ≤ p.2 → (total q.1 : Int) ≤ q.2 := by
      intro l
      induction l with
      | nil => intro p q e hp; cases e; exact hp
      | cons o l ih =>
        intro p q e hp
        have e : (stepN o p).bind (runN l) = some q := e
        cases hs : stepN o p with
        | none => rw [hs] at e; cases e
        | some p' =>
          rw [hs] at e
          exact ih p' q e (stepN_fit hs hp).1
    have := hfit _ _ _ r1 (by show ((0 : Nat) : Int) ≤ 0; omega)
    simp only [total, List.map_cons, List.map_nil, List.sum_cons, List.sum_nil] at this
    omega
set_option maxHeartbeats 8000000 in
theorem nfaPlaces_fn (s : List UInt8) : Fn Try.prog 11 [bytes s] [] (bool true) [] := by
  have ck := nknows_fn
  have c1 := parse_fn s
  by_cases hl : 500 < s.length
  · skip
    refine en Try.func11 (hfr := by (simp only [Try.ntmps11, go_sem, Nat.reduceSub, Nat.reduceAdd]; rfl)) ?_
    refine W.le (s := 0) rfl fun hm => ?_
    rw [List.length_map] at hm
    repeat' (first | exact absurd hb Bool.false_ne_true | exact absurd hb.symm Bool.false_ne_true | refine W.seq ?_ | refine W.block ?_ | (refine rg [] ?_; intro K hK) | (refine dr [] ?_; intro K hK) | refine cl (ck) ?_ | refine oq ?_ | refine sk ?_ | (refine nk hK ?_; clear hK K) | (refine nd hK ?_; clear hK K) | refine sp ?_ | refine ex ?_ | (refine gs (fun hb => ?_) (fun hb => ?_) <;> replace hb := nb hb <;> try exact noB hb) | (refine cd (fun hb => ?_) (fun hb => ?_) <;> replace hb := nb hb <;> try exact noB hb) | (with_reducible refine Exists.intro _ (And.intro rfl ?_)) | ((with_reducible refine And.intro ?_ ?_); (focus exact sdA)) | fail)
    all_goals (refine rt ?_; refine fin ?_; exact wqA)
  by_cases he : (parseS s).2.2 = 0
  · have hcn := parseS_cnt s he
    have c2 := build_fn (parseS s).1 (by omega) (fun o ho => by have := parseS_ops s o ho; omega)
    rcases built s he with ⟨h1, h2⟩ | ⟨x, h1, h2, h3⟩
    · rw [h2] at c2
      refine en Try.func11 (hfr := by (simp only [Try.ntmps11, go_sem, Nat.reduceSub, Nat.reduceAdd]; rfl)) ?_
      repeat' (first | exact absurd hb Bool.false_ne_true | exact absurd hb.symm Bool.false_ne_true | refine W.seq ?_ | refine W.block ?_ | (refine rg [] ?_; intro K hK) | (refine dr [] ?_; intro K hK) | refine cl (ck) ?_ | refine cl (c1) ?_ | refine cl (c2) ?_ | refine oq ?_ | refine sk ?_ | (refine nk hK ?_; clear hK K) | (refine nd hK ?_; clear hK K) | refine sp ?_ | refine ex ?_ | (refine gs (fun hb => ?_) (fun hb => ?_) <;> replace hb := nb hb <;> try exact noB hb) | (refine cd (fun hb => ?_) (fun hb => ?_) <;> replace hb := nb hb <;> try exact noB hb) | (with_reducible refine Exists.intro _ (And.intro rfl ?_)) | ((with_reducible refine And.intro ?_ ?_); (focus exact sdA)) | fail)
      all_goals (refine rt ?_; refine fin ?_; exact wqA)
    · rw [h3] at c2
      have hxl : x.length ≤ 1000 := by omega
      generalize hz : x ++ [doneI] = z at *
      have hzl : z.length = x.length + 1 := by rw [← hz]; simp
      have hzi : ∀ i, i < x.length → okI x.length (i : Int) (z.getD i InstS.zero) := fun i hi => by
        have h4 := okL_at (k := i) (i := z.getD i InstS.zero) h1 (by rw [← hz, List.getD_eq_getElem?_getD, List.getElem?_append_left hi, List.getElem?_eq_getElem hi]; rfl)
        rwa [Int.zero_add] at h4
      have hzd : z.getD x.length InstS.zero = doneI := by rw [← hz, List.getD_eq_getElem?_getD, List.getElem?_append_right (Nat.le_refl _)]; simp
      refine en Try.func11 (hfr := by (simp only [Try.ntmps11, go_sem, Nat.reduceSub, Nat.reduceAdd]; rfl)) ?_
      repeat' (first | exact absurd hb Bool.false_ne_true | exact absurd hb.symm Bool.false_ne_true | refine W.seq ?_ | refine W.block ?_ | (refine rgx [10] [] ?_; intro K hK) | (refine drx [10] [] ?_; intro K hK) | refine cl (ck) ?_ | refine cl (c1) ?_ | refine cl (c2) ?_ | refine oq ?_ | refine sk ?_ | (refine nk hK ?_; clear hK K) | (refine nd hK ?_; clear hK K) | refine sp ?_ | refine ex ?_ | (refine gs (fun hb => ?_) (fun hb => ?_) <;> replace hb := nb hb <;> try exact noB hb) | (refine cd (fun hb => ?_) (fun hb => ?_) <;> replace hb := nb hb <;> try exact noB hb) | (with_reducible refine Exists.intro _ (And.intro rfl ?_)) | ((with_reducible refine And.intro ?_ ?_); (focus exact sdA)) | fail)
      refine W.lp (ι := Nat) (fun i => (bytes s :: ay 5 (.d (instsD z) :: ay 1 (i64 i :: ay 118 [])))) (fun _ => []) (fun i => i ≤ z.length) (fun i => z.length - i) 0 (Nat.zero_le _) (Ent.to ?_ rfl) ?_
      · skip
        exact wkA
      intro i hi
      by_cases hlt : i < z.length
      · by_cases hix : i < x.length
        · have hok := hzi i hix
          rcases hok with k1 | ⟨k1, k2, k3⟩ | ⟨k1, k2⟩
          all_goals (have hnn : ¬ ¬ ((z.getD i InstS.zero).kind == 4) = ((i : Int) == (z.length : Int) - 1) := fun h => h (by rw [k1, show ((i : Int) == (z.length : Int) - 1) = false by rw [beq_eq_false_iff_ne]; omega]; rfl))
          · skip
            repeat' (first | exact absurd hb Bool.false_ne_true | exact absurd hb.symm Bool.false_ne_true | refine W.seq ?_ | refine W.block ?_ | (refine rg [] ?_; intro K hK) | (refine dr [] ?_; intro K hK) | refine oq ?_ | refine sk ?_ | (refine nk hK ?_; clear hK K) | (refine nd hK ?_; clear hK K) | refine sp ?_ | refine ex ?_ | (refine gs (fun hb => ?_) (fun hb => ?_) <;> replace hb := nb hb <;> try exact noB hb) | (refine cd (fun hb => ?_) (fun hb => ?_) <;> replace hb := nb hb <;> try exact noB hb) | (with_reducible refine Exists.intro _ (And.intro rfl ?_)) | ((with_reducible refine And.intro ?_ ?_); (focus exact sdA)) | fail)
            refine nx (i + 1) (by omega) (by omega) (sb [] _ _ (hf := ?_))
            exact wkA
          · skip
            repeat' (first | exact absurd hb Bool.false_ne_true | exact absurd hb.symm Bool.false_ne_true | refine W.seq ?_ | refine W.block ?_ | (refine rg [] ?_; intro K hK) | (refine dr [] ?_; intro K hK) | refine oq ?_ | refine sk ?_ | (refine nk hK ?_; clear hK K) | (refine nd hK ?_; clear hK K) | refine sp ?_ | refine ex ?_ | (refine gs (fun hb => ?_) (fun hb => ?_) <;> replace hb := nb hb <;> try exact noB hb) | (refine cd (fun hb => ?_) (fun hb => ?_) <;> replace hb := nb hb <;> try exact noB hb) | (with_reducible refine Exists.intro _ (And.intro rfl ?_)) | ((with_reducible refine And.intro ?_ ?_); (focus exact sdA)) | fail)
            refine nx (i + 1) (by omega) (by omega) (sb [] _ _ (hf := ?_))
            exact wkA
          · skip
            repeat' (first | exact absurd hb Bool.false_ne_true | exact absurd hb.symm Bool.false_ne_true | refine W.seq ?_ | refine W.block ?_ | (refine rg [] ?_; intro K hK) | (refine dr [] ?_; intro K hK) | refine oq ?_ | refine sk ?_ | (refine nk hK ?_; clear hK K) | (refine nd hK ?_; clear hK K) | refine sp ?_ | refine ex ?_ | (refine gs (fun hb => ?_) (fun hb => ?_) <;> replace hb := nb hb <;> try exact noB hb) | (refine cd (fun hb => ?_) (fun hb => ?_) <;> replace hb := nb hb <;> try exact noB hb) | (with_reducible refine Exists.intro _ (And.intro rfl ?_)) | ((with_reducible refine And.intro ?_ ?_); (focus exact sdA)) | fail)
            refine nx (i + 1) (by omega) (by omega) (sb [] _ _ (hf := ?_))
            exact wkA
        · have hie : i = x.length := by omega
          have hdk : (z.getD i InstS.zero).kind = 4 := by rw [hie, hzd]; rfl
          have hnn : ¬ ¬ ((z.getD i InstS.zero).kind == 4) = ((i : Int) == (z.length : Int) - 1) := fun h => h (by rw [hdk, show ((i : Int) == (z.length : Int) - 1) = true by rw [beq_iff_eq]; omega]; rfl)
          repeat' (first | exact absurd hb Bool.false_ne_true | exact absurd hb.symm Bool.false_ne_true | refine W.seq ?_ | refine W.block ?_ | (refine rg [] ?_; intro K hK) | (refine dr [] ?_; intro K hK) | refine oq ?_ | refine sk ?_ | (refine nk hK ?_; clear hK K) | (refine nd hK ?_; clear hK K) | refine sp ?_ | refine ex ?_ | (refine gs (fun hb => ?_) (fun hb => ?_) <;> replace hb := nb hb <;> try exact noB hb) | (refine cd (fun hb => ?_) (fun hb => ?_) <;> replace hb := nb hb <;> try exact noB hb) | (with_reducible refine Exists.intro _ (And.intro rfl ?_)) | ((with_reducible refine And.intro ?_ ?_); (focus exact sdA)) | fail)
          refine nx (i + 1) (by omega) (by omega) (sb [] _ _ (hf := ?_))
          exact wkA
      · skip
        repeat' (first | exact absurd hb Bool.false_ne_true | exact absurd hb.symm Bool.false_ne_true | refine W.seq ?_ | refine W.block ?_ | (refine rg [] ?_; intro K hK) | (refine dr [] ?_; intro K hK) | refine cl (ck) ?_ | refine oq ?_ | refine sk ?_ | (refine nk hK ?_; clear hK K) | (refine nd hK ?_; clear hK K) | refine sp ?_ | refine ex ?_ | (refine gs (fun hb => ?_) (fun hb => ?_) <;> replace hb := nb hb <;> try exact noB hb) | (refine cd (fun hb => ?_) (fun hb => ?_) <;> replace hb := nb hb <;> try exact noB hb) | (with_reducible refine Exists.intro _ (And.intro rfl ?_)) | ((with_reducible refine And.intro ?_ ?_); (focus exact sdA)) | fail)
        all_goals (refine rt ?_; refine fin ?_; exact wqA)
  · skip
    refine en Try.func11 (hfr := by (simp only [Try.ntmps11, go_sem, Nat.reduceSub, Nat.reduceAdd]; rfl)) ?_
    repeat' (first | exact absurd hb Bool.false_ne_true | exact absurd hb.symm Bool.false_ne_true | refine W.seq ?_ | refine W.block ?_ | (refine rg [] ?_; intro K hK) | (refine dr [] ?_; intro K hK) | refine cl (ck) ?_ | refine cl (c1) ?_ | refine oq ?_ | refine sk ?_ | (refine nk hK ?_; clear hK K) | (refine nd hK ?_; clear hK K) | refine sp ?_ | refine ex ?_ | (refine gs (fun hb => ?_) (fun hb => ?_) <;> replace hb := nb hb <;> try exact noB hb) | (refine cd (fun hb => ?_) (fun hb => ?_) <;> replace hb := nb hb <;> try exact noB hb) | (with_reducible refine Exists.intro _ (And.intro rfl ?_)) | ((with_reducible refine And.intro ?_ ?_); (focus exact sdA)) | fail)
    all_goals (refine rt ?_; refine fin ?_; exact wqA)
theorem nfaPlaces_vs (s : List UInt8) : Fn Try.prog 11 [bytes s] [] (bool true) [] := nfaPlaces_fn s
end Go.Proofs.Ytgebfcdcpmmgnaa.Vs
