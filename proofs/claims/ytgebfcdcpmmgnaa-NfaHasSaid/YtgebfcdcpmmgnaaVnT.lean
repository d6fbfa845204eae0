/- patterns: atoms, steps; patterns: steps; patterns: Parse. -/
import Derived.Test.YtgebfcdcpmmgnaaVnR
set_option linter.unusedVariables false
set_option linter.unusedSimpArgs false
namespace Go.Proofs.Ytgebfcdcpmmgnaa.Vs
open Go.RowKit
set_option maxRecDepth 100000
/-- An atom of bytes. -/
def bytesS (s : List UInt8) (pos : Nat) : Option OpS × Nat :=
  if (s.getD pos 0).toNat = 42 ∨ (s.getD pos 0).toNat = 43 ∨ (s.getD pos 0).toNat = 63 ∨ (s.getD pos 0).toNat = 93 then (none, pos)
  else if (s.getD pos 0).toNat = 91 then setR s (pos + 1)
  else if (s.getD pos 0).toNat = 46 then (some ⟨1, true, [⟨10, 10⟩]⟩, pos + 1)
  else if (s.getD pos 0).toNat = 92 then
    (if pos + 1 < s.length ∧ classS (s.getD (pos + 1) 0) ≠ [] then (some ⟨1, false, classS (s.getD (pos + 1) 0)⟩, pos + 1 + 1)
    else if (escS s (pos + 1)).2.1 then (some ⟨1, false, [⟨(escS s (pos + 1)).1, (escS s (pos + 1)).1⟩]⟩, (escS s (pos + 1)).2.2) else (none, (escS s (pos + 1)).2.2))
  else (some ⟨1, false, [⟨s.getD pos 0, s.getD pos 0⟩]⟩, pos + 1)
/-- What is answered beside false. -/
def opOr (s : List UInt8) (pos : Nat) : OpS := match (bytesS s pos).1 with
  | some o => o
  | none => if (s.getD pos 0).toNat = 92 then ⟨1, false, [⟨(escS s (pos + 1)).1, (escS s (pos + 1)).1⟩]⟩ else OpS.zero
set_option maxHeartbeats 8000000 in
theorem atom_fn (s : List UInt8) (pos : Nat) (out : List OpS) (k : Nat) (l : List LevS) (p : LevS) (h : pos < s.length) (hq : s.length ≤ 10000) : Fn Try.prog 112 [.ptr 0 0] (rgr s pos out k l p) (.tup [.agg [i64 (opOr s pos).kind, bool (opOr s pos).not, .d (spansD (opOr s pos).spans)], bool (bytesS s pos).1.isSome]) (rgr s (bytesS s pos).2 out k l p) := by
  by_cases h1 : (s.getD pos 0).toNat = 42 ∨ (s.getD pos 0).toNat = 43 ∨ (s.getD pos 0).toNat = 63 ∨ (s.getD pos 0).toNat = 93
  · have e : bytesS s pos = (none, pos) := if_pos h1
    have e2 : opOr s pos = OpS.zero := by unfold opOr; rw [e]; exact if_neg (by omega)
    rw [e2, e]
    refine en Try.func112 (hfr := by (simp only [Try.ntmps112, go_sem, Nat.reduceSub, Nat.reduceAdd]; rfl)) ?_
    repeat' (first | exact absurd hb Bool.false_ne_true | exact absurd hb.symm Bool.false_ne_true | refine W.seq ?_ | refine W.block ?_ | (refine rg [] ?_; intro K hK) | (refine dr [] ?_; intro K hK) | refine oq ?_ | refine sk ?_ | (refine nk hK ?_; clear hK K) | (refine nd hK ?_; clear hK K) | refine sp ?_ | refine ex ?_ | (refine gs (fun hb => ?_) (fun hb => ?_) <;> replace hb := nb hb <;> try exact noB hb) | (refine cd (fun hb => ?_) (fun hb => ?_) <;> replace hb := nb hb <;> try exact noB hb) | (with_reducible refine Exists.intro _ (And.intro rfl ?_)) | ((with_reducible refine And.intro ?_ ?_); (focus exact sdA)) | fail)
    all_goals (refine rt ?_; refine fin ?_; exact wqA)
  by_cases h2 : (s.getD pos 0).toNat = 91
  · have e : bytesS s pos = setR s (pos + 1) := by unfold bytesS; rw [if_neg h1, if_pos h2]
    have e2 : opOr s pos = (setR s (pos + 1)).1.getD OpS.zero := by
      unfold opOr
      rw [e]
      cases (setR s (pos + 1)).1 with
      | some o => rfl
      | none => exact if_neg (by omega)
    have c := set_fn s (pos + 1) out k l p (by omega)
    rw [e2, e]
    refine en Try.func112 (hfr := by (simp only [Try.ntmps112, go_sem, Nat.reduceSub, Nat.reduceAdd]; rfl)) ?_
    repeat' (first | exact absurd hb Bool.false_ne_true | exact absurd hb.symm Bool.false_ne_true | refine W.seq ?_ | refine W.block ?_ | (refine rg [] ?_; intro K hK) | (refine dr [] ?_; intro K hK) | refine cle [0, 1, 2] 0 (c) ?_ | refine oq ?_ | refine sk ?_ | (refine nk hK ?_; clear hK K) | (refine nd hK ?_; clear hK K) | refine sp ?_ | refine ex ?_ | (refine gs (fun hb => ?_) (fun hb => ?_) <;> replace hb := nb hb <;> try exact noB hb) | (refine cd (fun hb => ?_) (fun hb => ?_) <;> replace hb := nb hb <;> try exact noB hb) | (with_reducible refine Exists.intro _ (And.intro rfl ?_)) | ((with_reducible refine And.intro ?_ ?_); (focus exact sdA)) | fail)
    all_goals (refine rt ?_; refine fin ?_; exact wqA)
  by_cases h3 : (s.getD pos 0).toNat = 46
  · have e : bytesS s pos = (some ⟨1, true, [⟨10, 10⟩]⟩, pos + 1) := by unfold bytesS; rw [if_neg h1, if_neg h2, if_pos h3]
    have e2 : opOr s pos = ⟨1, true, [⟨10, 10⟩]⟩ := by unfold opOr; rw [e]
    rw [e2, e]
    refine en Try.func112 (hfr := by (simp only [Try.ntmps112, go_sem, Nat.reduceSub, Nat.reduceAdd]; rfl)) ?_
    repeat' (first | exact absurd hb Bool.false_ne_true | exact absurd hb.symm Bool.false_ne_true | refine W.seq ?_ | refine W.block ?_ | (refine rg [] ?_; intro K hK) | (refine dr [] ?_; intro K hK) | refine oq ?_ | refine sk ?_ | (refine nk hK ?_; clear hK K) | (refine nd hK ?_; clear hK K) | refine sp ?_ | refine ex ?_ | (refine gs (fun hb => ?_) (fun hb => ?_) <;> replace hb := nb hb <;> try exact noB hb) | (refine cd (fun hb => ?_) (fun hb => ?_) <;> replace hb := nb hb <;> try exact noB hb) | (with_reducible refine Exists.intro _ (And.intro rfl ?_)) | ((with_reducible refine And.intro ?_ ?_); (focus exact sdA)) | fail)
    all_goals (refine rt ?_; refine fin ?_; exact wqA)
  by_cases h4 : (s.getD pos 0).toNat = 92
  · by_cases h5 : pos + 1 < s.length ∧ classS (s.getD (pos + 1) 0) ≠ []
    · have e : bytesS s pos = (some ⟨1, false, classS (s.getD (pos + 1) 0)⟩, pos + 1 + 1) := by unfold bytesS; rw [if_neg h1, if_neg h2, if_neg h3, if_pos h4, if_pos h5]
      have e2 : opOr s pos = ⟨1, false, classS (s.getD (pos + 1) 0)⟩ := by unfold opOr; rw [e]
      rw [e2, e]
      obtain ⟨h5, h6⟩ := h5
      have c := class_is (s.getD (pos + 1) 0) h6
      generalize classS (s.getD (pos + 1) 0) = cl at *
      cases cl with
      | nil => exact absurd rfl h6
      | cons x xs =>
        refine en Try.func112 (hfr := by (simp only [Try.ntmps112, go_sem, Nat.reduceSub, Nat.reduceAdd]; rfl)) ?_
        repeat' (first | exact absurd hb Bool.false_ne_true | exact absurd hb.symm Bool.false_ne_true | refine W.seq ?_ | refine W.block ?_ | (refine rg [] ?_; intro K hK) | (refine dr [] ?_; intro K hK) | refine cl (c) ?_ | refine oq ?_ | refine sk ?_ | (refine nk hK ?_; clear hK K) | (refine nd hK ?_; clear hK K) | refine sp ?_ | refine ex ?_ | (refine gs (fun hb => ?_) (fun hb => ?_) <;> replace hb := nb hb <;> try exact noB hb) | (refine cd (fun hb => ?_) (fun hb => ?_) <;> replace hb := nb hb <;> try exact noB hb) | (with_reducible refine Exists.intro _ (And.intro rfl ?_)) | ((with_reducible refine And.intro ?_ ?_); (focus exact sdA)) | fail)
        all_goals (refine rt ?_; refine fin ?_; exact wqA)
    · have c := esc_fn s (pos + 1) out k l p (by omega)
      have e : bytesS s pos = (if (escS s (pos + 1)).2.1 then (some ⟨1, false, [⟨(escS s (pos + 1)).1, (escS s (pos + 1)).1⟩]⟩, (escS s (pos + 1)).2.2) else (none, (escS s (pos + 1)).2.2)) := by unfold bytesS; rw [if_neg h1, if_neg h2, if_neg h3, if_pos h4, if_neg h5]
      have e2 : opOr s pos = ⟨1, false, [⟨(escS s (pos + 1)).1, (escS s (pos + 1)).1⟩]⟩ := by
        unfold opOr
        rw [e]
        cases (escS s (pos + 1)).2.1 with
        | true => rfl
        | false => exact if_pos h4
      have e3 : (bytesS s pos).1.isSome = (escS s (pos + 1)).2.1 := by rw [e]; cases (escS s (pos + 1)).2.1 <;> rfl
      have e4 : (bytesS s pos).2 = (escS s (pos + 1)).2.2 := by rw [e]; cases (escS s (pos + 1)).2.1 <;> rfl
      rw [e2, e3, e4]
      by_cases h6 : pos + 1 < s.length
      · have c2 := class_no (s.getD (pos + 1) 0) (Decidable.byContradiction fun hne => h5 ⟨h6, hne⟩)
        refine en Try.func112 (hfr := by (simp only [Try.ntmps112, go_sem, Nat.reduceSub, Nat.reduceAdd]; rfl)) ?_
        repeat' (first | exact absurd hb Bool.false_ne_true | exact absurd hb.symm Bool.false_ne_true | refine W.seq ?_ | refine W.block ?_ | (refine rg [] ?_; intro K hK) | (refine dr [] ?_; intro K hK) | refine cl (c2) ?_ | refine cle [0, 1, 2] 0 (c) ?_ | refine oq ?_ | refine sk ?_ | (refine nk hK ?_; clear hK K) | (refine nd hK ?_; clear hK K) | refine sp ?_ | refine ex ?_ | (refine gs (fun hb => ?_) (fun hb => ?_) <;> replace hb := nb hb <;> try exact noB hb) | (refine cd (fun hb => ?_) (fun hb => ?_) <;> replace hb := nb hb <;> try exact noB hb) | (with_reducible refine Exists.intro _ (And.intro rfl ?_)) | ((with_reducible refine And.intro ?_ ?_); (focus exact sdA)) | fail)
        all_goals (refine rt ?_; refine fin ?_; exact wqA)
      · skip
        refine en Try.func112 (hfr := by (simp only [Try.ntmps112, go_sem, Nat.reduceSub, Nat.reduceAdd]; rfl)) ?_
        repeat' (first | exact absurd hb Bool.false_ne_true | exact absurd hb.symm Bool.false_ne_true | refine W.seq ?_ | refine W.block ?_ | (refine rg [] ?_; intro K hK) | (refine dr [] ?_; intro K hK) | refine cle [0, 1, 2] 0 (c) ?_ | refine oq ?_ | refine sk ?_ | (refine nk hK ?_; clear hK K) | (refine nd hK ?_; clear hK K) | refine sp ?_ | refine ex ?_ | (refine gs (fun hb => ?_) (fun hb => ?_) <;> replace hb := nb hb <;> try exact noB hb) | (refine cd (fun hb => ?_) (fun hb => ?_) <;> replace hb := nb hb <;> try exact noB hb) | (with_reducible refine Exists.intro _ (And.intro rfl ?_)) | ((with_reducible refine And.intro ?_ ?_); (focus exact sdA)) | fail)
        all_goals (refine rt ?_; refine fin ?_; exact wqA)
  · have e : bytesS s pos = (some ⟨1, false, [⟨s.getD pos 0, s.getD pos 0⟩]⟩, pos + 1) := by unfold bytesS; rw [if_neg h1, if_neg h2, if_neg h3, if_neg h4]
    have e2 : opOr s pos = ⟨1, false, [⟨s.getD pos 0, s.getD pos 0⟩]⟩ := by unfold opOr; rw [e]
    rw [e2, e]
    refine en Try.func112 (hfr := by (simp only [Try.ntmps112, go_sem, Nat.reduceSub, Nat.reduceAdd]; rfl)) ?_
    repeat' (first | exact absurd hb Bool.false_ne_true | exact absurd hb.symm Bool.false_ne_true | refine W.seq ?_ | refine W.block ?_ | (refine rg [] ?_; intro K hK) | (refine dr [] ?_; intro K hK) | refine oq ?_ | refine sk ?_ | (refine nk hK ?_; clear hK K) | (refine nd hK ?_; clear hK K) | refine sp ?_ | refine ex ?_ | (refine gs (fun hb => ?_) (fun hb => ?_) <;> replace hb := nb hb <;> try exact noB hb) | (refine cd (fun hb => ?_) (fun hb => ?_) <;> replace hb := nb hb <;> try exact noB hb) | (with_reducible refine Exists.intro _ (And.intro rfl ?_)) | ((with_reducible refine And.intro ?_ ?_); (focus exact sdA)) | fail)
    all_goals (refine rt ?_; refine fin ?_; exact wqA)
/-- What is read so far: the top level, and those below it. -/
structure RgS where
  pos : Nat
  out : List OpS
  lv : List LevS
  top : LevS
def stepR (s : List UInt8) (st : RgS) : Int × RgS :=
  if (s.getD st.pos 0).toNat = 40 then (if 8 < st.lv.length + 1 then (5, st) else (0, ⟨st.pos + 1, st.out, st.top :: st.lv, (0, 0)⟩))
  else if (s.getD st.pos 0).toNat = 124 then (0, ⟨st.pos + 1, st.out ++ endOps st.top, st.lv, (st.top.1 + 1, 0)⟩)
  else if (s.getD st.pos 0).toNat = 41 then (match st.lv with
    | [] => (2, st)
    | p :: r => (0, ⟨repP s (st.pos + 1), pieceO (repO s (st.pos + 1) (st.out ++ endOps st.top)) p, r, (p.1, p.2 + 1)⟩))
  else match bytesS s st.pos with
    | (none, q) => (2, ⟨q, st.out, st.lv, st.top⟩)
    | (some o, q) => (0, ⟨repP s q, pieceO (repO s q (st.out ++ [o])) st.top, st.lv, (st.top.1, st.top.2 + 1)⟩)
structure RgI (s : List UInt8) (st : RgS) : Prop where
  pos : st.pos ≤ s.length
  out : st.out.length ≤ 4 * st.pos
  lv : st.lv.length ≤ 8
  lev : ∀ p ∈ st.top :: st.lv, 0 ≤ p.1 ∧ p.1 ≤ st.pos ∧ 0 ≤ p.2 ∧ p.2 ≤ st.pos
theorem span_lt (s : List UInt8) (pos : Nat) (x : SpanS) (q : Nat) (h : spanS s pos = (some x, q)) : pos < q ∧ q ≤ s.length := by
  have h1 := one_lt s pos
  have h2 := one_lt s ((oneS s pos).2.2 + 1)
  unfold spanS at h
  by_cases a1 : (oneS s pos).2.1 = false
  · rw [if_pos a1] at h; cases h
  · rw [if_neg a1] at h
    have k1 := h1.2.1 (by simpa using a1)
    by_cases a2 : (oneS s pos).2.2 < s.length ∧ (s.getD (oneS s pos).2.2 0).toNat = 45
    · rw [if_pos a2] at h
      by_cases a3 : (oneS s ((oneS s pos).2.2 + 1)).2.1 = false
      · rw [if_pos a3] at h; cases h
      · rw [if_neg a3] at h
        have k2 := h2.2.1 (by simpa using a3)
        by_cases a4 : (oneS s ((oneS s pos).2.2 + 1)).1.toNat < (oneS s pos).1.toNat
        · rw [if_pos a4] at h; cases h
        · rw [if_neg a4] at h
          injection h with _ h
          subst h
          omega
    · rw [if_neg a2] at h
      injection h with _ h
      subst h
      omega
theorem setS_lt (s : List UInt8) : ∀ (n pos : Nat) (acc l : List SpanS) (q : Nat), setS s n pos acc = (some l, q) → pos < q ∧ q ≤ s.length
  | 0, _, _, _, _, h => by cases h
  | n + 1, pos, acc, l, q, h => by
    unfold setS at h
    split at h
    · rename_i hc
      injection h with _ h
      subst h
      omega
    · split at h
      · cases h
      · rename_i x q1 hx
        have h1 := span_lt s pos x q1 hx
        have h2 := setS_lt s n q1 _ l q h
        omega
theorem bytesS_lt (s : List UInt8) (pos : Nat) (o : OpS) (q : Nat) (hp : pos < s.length) (h : bytesS s pos = (some o, q)) : pos < q ∧ q ≤ s.length := by
  unfold bytesS at h
  split at h
  · cases h
  split at h
  · unfold setR at h
    injection h with h1 h2
    obtain ⟨l, hl, _⟩ := Option.map_eq_some_iff.1 h1
    have h3 := setS_lt s (s.length + 1) (caretP s (pos + 1)) [] l q (by rw [← h2, ← hl])
    have h4 : pos + 1 ≤ caretP s (pos + 1) := by unfold caretP; split <;> omega
    omega
  split at h
  · injection h with _ h; omega
  split at h
  · split at h
    · injection h with _ h; omega
    · split at h
      · rename_i he
        injection h with _ h
        have := (esc_lt s (pos + 1)).2.1 he
        omega
      · cases h
  · injection h with _ h; omega
theorem repP_le (s : List UInt8) (pos : Nat) (h : pos ≤ s.length) : pos ≤ repP s pos ∧ repP s pos ≤ s.length := by
  unfold repP
  split
  · rename_i hr
    unfold isRep at hr
    simp only [Bool.and_eq_true, decide_eq_true_eq] at hr
    omega
  · omega
theorem repO_len (s : List UInt8) (pos : Nat) (out : List OpS) (p : LevS) : (pieceO (repO s pos out) p).length ≤ out.length + 2 := by
  unfold pieceO repO
  (repeat' split) <;> simp
theorem endOps_len (p : LevS) : (endOps p).length ≤ 2 := by unfold endOps; (repeat' split) <;> simp
/-- A step that goes well goes on. -/
theorem stepR_ok (s : List UInt8) (st : RgS) (hI : RgI s st) (hp : st.pos < s.length) (h : (stepR s st).1 = 0) : RgI s (stepR s st).2 ∧ st.pos < (stepR s st).2.pos := by
  obtain ⟨i1, i2, i3, i4⟩ := hI
  unfold stepR at *
  by_cases c1 : (s.getD st.pos 0).toNat = 40
  · rw [if_pos c1] at h ⊢
    by_cases c2 : 8 < st.lv.length + 1
    · rw [if_pos c2] at h; cases h
    · rw [if_neg c2]
      refine ⟨⟨by simp only; omega, by simp only; omega, by simp only [List.length_cons]; omega, fun p hp => ?_⟩, by simp only; omega⟩
      rcases List.mem_cons.1 hp with rfl | hp
      · simp only; omega
      · have := i4 p hp
        simp only; omega
  rw [if_neg c1] at h ⊢
  by_cases c2 : (s.getD st.pos 0).toNat = 124
  · rw [if_pos c2]
    have := endOps_len st.top
    refine ⟨⟨by simp only; omega, by simp only [List.length_append]; omega, i3, fun p hp => ?_⟩, by simp only; omega⟩
    rcases List.mem_cons.1 hp with rfl | hp
    · have := i4 st.top (by simp)
      simp only; omega
    · have := i4 p (List.mem_cons_of_mem _ hp)
      simp only; omega
  rw [if_neg c2] at h ⊢
  by_cases c3 : (s.getD st.pos 0).toNat = 41
  · rw [if_pos c3] at h ⊢
    cases hl : st.lv with
    | nil => rw [hl] at h; cases h
    | cons p r =>
      have h1 := repP_le s (st.pos + 1) (by omega)
      have h2 := repO_len s (st.pos + 1) (st.out ++ endOps st.top) p
      have h3 := endOps_len st.top
      rw [hl] at i3 i4
      simp only [List.length_append, List.length_cons] at h2 i3
      refine ⟨⟨h1.2, by simp only; omega, by simp only; omega, fun x hx => ?_⟩, by simp only; omega⟩
      rcases List.mem_cons.1 hx with rfl | hx
      · have := i4 p (by simp)
        simp only; omega
      · have := i4 x (by simp [hx])
        simp only; omega
  rw [if_neg c3] at h ⊢
  cases hb : bytesS s st.pos with
  | mk o q =>
    cases o with
    | none => rw [hb] at h; cases h
    | some o =>
      have h0 := bytesS_lt s st.pos o q hp hb
      have h1 := repP_le s q h0.2
      have h2 := repO_len s q (st.out ++ [o]) st.top
      simp only [List.length_append, List.length_cons, List.length_nil] at h2
      refine ⟨⟨h1.2, by simp only; omega, i3, fun x hx => ?_⟩, by simp only; omega⟩
      rcases List.mem_cons.1 hx with rfl | hx
      · have := i4 st.top (by simp)
        simp only; omega
      · have := i4 x (List.mem_cons_of_mem _ hx)
        simp only; omega
abbrev rgs (s : List UInt8) (k : Nat) (st : RgS) : List Ob := rgr s st.pos st.out k st.lv.reverse st.top
@[go_sem ↓] theorem lev_part (l : List LevS) (p : LevS) : ((levD (l ++ [p])).drop (l.length * 2)).take 2 = [.int .i64 p.1, .int .i64 p.2] := by
  rw [levD_snoc, List.drop_left' (levD_len l)]
  rfl
@[go_sem ↓] theorem lev_take (l : List LevS) (p : LevS) : ((levD (l ++ [p])).map V.d).take (l.length * 2) = (levD l).map V.d := by
  rw [levD_snoc, List.map_append, List.take_left' (by rw [List.length_map, levD_len])]
set_option maxHeartbeats 4000000 in
theorem pop_fn (s : List UInt8) (pos : Nat) (out : List OpS) (k : Nat) (l : List LevS) (q : LevS) (hl : l.length ≤ 1000) : Fn Try.prog 110 [.ptr 0 3] (rgr s pos out k l q) (.agg [i64 q.1, i64 q.2]) (rgo s pos out (k + 1) l) := by
  have c := top_fn k l q (by omega)
  have e : ((l.length + 1 : Nat) - 1 : Int).toNat = l.length := by omega
  refine en Try.func110 (hfr := by (simp only [Try.ntmps110, go_sem, Nat.reduceSub, Nat.reduceAdd]; rfl)) ?_
  have e2 : (levD (l ++ [q])).take (l.length * 2) = levD l := by rw [levD_snoc, List.take_left' (levD_len l)]
  repeat' (first | exact absurd hb Bool.false_ne_true | exact absurd hb.symm Bool.false_ne_true | refine W.seq ?_ | refine W.block ?_ | (refine rg [] ?_; intro K hK) | (refine dr [] ?_; intro K hK) | refine cle [2] 0 (c) ?_ | refine oq ?_ | refine sk ?_ | (refine nk hK ?_; clear hK K) | (refine nd hK ?_; clear hK K) | refine sp ?_ | refine ex ?_ | (refine gs (fun hb => ?_) (fun hb => ?_) <;> replace hb := nb hb <;> try exact noB hb) | (refine cd (fun hb => ?_) (fun hb => ?_) <;> replace hb := nb hb <;> try exact noB hb) | (with_reducible refine Exists.intro _ (And.intro rfl ?_)) | ((with_reducible refine And.intro ?_ ?_); (focus exact sdA)) | fail)
  rw [e, e2]
  all_goals (refine rt ?_; refine fin ?_; exact wqA)
theorem rgo_snoc (s : List UInt8) (pos : Nat) (out : List OpS) (k : Nat) (l : List LevS) (p : LevS) : rgo s pos out k (l ++ [p]) = rgr s pos out k l p := by
  simp only [rgo, rgr, snoc_len]
theorem pop_at (s : List UInt8) (pos : Nat) (out : List OpS) (k : Nat) (l : List LevS) (p q : LevS) (hl : l.length ≤ 900) : Fn Try.prog 110 [.ptr 0 3] (rgr s pos out k (l ++ [p]) q) (.agg [i64 q.1, i64 q.2]) (rgr s pos out (k + 1) l p) := by
  have := pop_fn s pos out k (l ++ [p]) q (by simp; omega)
  rwa [rgo_snoc] at this
theorem put_at (s : List UInt8) (pos : Nat) (out : List OpS) (k : Nat) (l : List LevS) (p q : LevS) (hl : l.length ≤ 900) : Fn Try.prog 69 [.ptr 0 3, .agg [i64 q.1, i64 q.2]] (rgr s pos out k l p) (.tup []) (rgr s pos out (k + 1) (l ++ [p]) q) := by
  have := put_fn s pos out k (l ++ [p]) q (by simp; omega)
  rwa [rgo_snoc] at this
set_option maxHeartbeats 8000000 in
theorem step_fn (s : List UInt8) (st : RgS) (k : Nat) (hI : RgI s st) (hp : st.pos < s.length) (hq : s.length ≤ 1000) : ∃ k', Fn Try.prog 70 [.ptr 0 0] (rgs s k st) (i64 (stepR s st).1) (rgs s k' (stepR s st).2) := by
  obtain ⟨i1, i2, i3, i4⟩ := hI
  have i5 := i4 st.top (by simp)
  obtain ⟨pos, out, lv, top⟩ := st
  simp only at i1 i2 i3 i5 hp
  unfold stepR rgs
  simp only
  have hrl : lv.reverse.length = lv.length := List.length_reverse
  by_cases c1 : (s.getD pos 0).toNat = 40
  · rw [if_pos c1]
    by_cases c2 : 8 < lv.length + 1
    · rw [if_pos c2]
      refine ⟨k, ?_⟩
      refine en Try.func70 (hfr := by (simp only [Try.ntmps70, go_sem, Nat.reduceSub, Nat.reduceAdd]; rfl)) ?_
      repeat' (first | exact absurd hb Bool.false_ne_true | exact absurd hb.symm Bool.false_ne_true | refine W.seq ?_ | refine W.block ?_ | (refine rg [] ?_; intro K hK) | (refine dr [] ?_; intro K hK) | refine oq ?_ | refine sk ?_ | (refine nk hK ?_; clear hK K) | (refine nd hK ?_; clear hK K) | refine sp ?_ | refine ex ?_ | (refine gs (fun hb => ?_) (fun hb => ?_) <;> replace hb := nb hb <;> try exact noB hb) | (refine cd (fun hb => ?_) (fun hb => ?_) <;> replace hb := nb hb <;> try exact noB hb) | (with_reducible refine Exists.intro _ (And.intro rfl ?_)) | ((with_reducible refine And.intro ?_ ?_); (focus exact sdA)) | fail)
      all_goals (refine rt ?_; refine fin ?_; exact wqA)
    · rw [if_neg c2]
      have c := put_at s pos out k lv.reverse top (0, 0) (by simp; omega)
      simp only [List.reverse_cons]
      refine ⟨k + 1, ?_⟩
      refine en Try.func70 (hfr := by (simp only [Try.ntmps70, go_sem, Nat.reduceSub, Nat.reduceAdd]; rfl)) ?_
      repeat' (first | exact absurd hb Bool.false_ne_true | exact absurd hb.symm Bool.false_ne_true | refine W.seq ?_ | refine W.block ?_ | (refine rg [] ?_; intro K hK) | (refine dr [] ?_; intro K hK) | refine cle [0, 1, 2] 0 (c) ?_ | refine oq ?_ | refine sk ?_ | (refine nk hK ?_; clear hK K) | (refine nd hK ?_; clear hK K) | refine sp ?_ | refine ex ?_ | (refine gs (fun hb => ?_) (fun hb => ?_) <;> replace hb := nb hb <;> try exact noB hb) | (refine cd (fun hb => ?_) (fun hb => ?_) <;> replace hb := nb hb <;> try exact noB hb) | (with_reducible refine Exists.intro _ (And.intro rfl ?_)) | ((with_reducible refine And.intro ?_ ?_); (focus exact sdA)) | fail)
      refine rt ?_
      refine fin ?_ (ht := by simp only [rgr, snoc_len, List.length_append, List.length_cons, List.length_nil, Nat.zero_add, Nat.add_zero]; rfl)
      exact wqA
  rw [if_neg c1]
  by_cases c2 : (s.getD pos 0).toNat = 124
  · rw [if_pos c2]
    have c := branch_fn s pos out k lv.reverse top (by omega) (by simp; omega) (by omega)
    refine ⟨k, ?_⟩
    refine en Try.func70 (hfr := by (simp only [Try.ntmps70, go_sem, Nat.reduceSub, Nat.reduceAdd]; rfl)) ?_
    repeat' (first | exact absurd hb Bool.false_ne_true | exact absurd hb.symm Bool.false_ne_true | refine W.seq ?_ | refine W.block ?_ | (refine rg [] ?_; intro K hK) | (refine dr [] ?_; intro K hK) | refine cle [0, 1, 2] 0 (c) ?_ | refine oq ?_ | refine sk ?_ | (refine nk hK ?_; clear hK K) | (refine nd hK ?_; clear hK K) | refine sp ?_ | refine ex ?_ | (refine gs (fun hb => ?_) (fun hb => ?_) <;> replace hb := nb hb <;> try exact noB hb) | (refine cd (fun hb => ?_) (fun hb => ?_) <;> replace hb := nb hb <;> try exact noB hb) | (with_reducible refine Exists.intro _ (And.intro rfl ?_)) | ((with_reducible refine And.intro ?_ ?_); (focus exact sdA)) | fail)
    refine rt ?_
    refine fin ?_ (ht := by simp only [rgr, List.length_append, List.length_cons, List.length_nil, Nat.zero_add, Nat.add_zero]; rfl)
    exact wqA
  rw [if_neg c2]
  by_cases c3 : (s.getD pos 0).toNat = 41
  · rw [if_pos c3]
    cases lv with
    | nil =>
      rw [List.reverse_nil]
      have hl0 : ([] : List LevS).length = 0 := rfl
      refine ⟨k, ?_⟩
      refine en Try.func70 (hfr := by (simp only [Try.ntmps70, go_sem, Nat.reduceSub, Nat.reduceAdd]; rfl)) ?_
      repeat' (first | exact absurd hb Bool.false_ne_true | exact absurd hb.symm Bool.false_ne_true | refine W.seq ?_ | refine W.block ?_ | (refine rg [] ?_; intro K hK) | (refine dr [] ?_; intro K hK) | refine oq ?_ | refine sk ?_ | (refine nk hK ?_; clear hK K) | (refine nd hK ?_; clear hK K) | refine sp ?_ | refine ex ?_ | (refine gs (fun hb => ?_) (fun hb => ?_) <;> replace hb := nb hb <;> try exact noB hb) | (refine cd (fun hb => ?_) (fun hb => ?_) <;> replace hb := nb hb <;> try exact noB hb) | (with_reducible refine Exists.intro _ (And.intro rfl ?_)) | ((with_reducible refine And.intro ?_ ?_); (focus exact sdA)) | fail)
      all_goals (refine rt ?_; refine fin ?_; exact wqA)
    | cons p r =>
      have i6 := i4 p (by simp)
      simp only [List.length_cons] at i3
      have hr1 : (r.reverse ++ [p]).length = r.length + 1 := by simp
      have hr2 : r.reverse.length = r.length := List.length_reverse
      have he := endOps_len top
      have ca := branch_fn s pos out k (r.reverse ++ [p]) top (by omega) (by simp; omega) (by omega)
      have cb := pop_at s pos (out ++ endOps top) k r.reverse p (top.1 + 1, 0) (by simp; omega)
      have cc := repeat_fn s (pos + 1) (out ++ endOps top) (k + 1) r.reverse p (by simp; omega) (by simp; omega) (by simp only at i6; omega) (by omega)
      simp only [List.reverse_cons]
      refine ⟨k + 1, ?_⟩
      refine en Try.func70 (hfr := by (simp only [Try.ntmps70, go_sem, Nat.reduceSub, Nat.reduceAdd]; rfl)) ?_
      repeat' (first | exact absurd hb Bool.false_ne_true | exact absurd hb.symm Bool.false_ne_true | refine W.seq ?_ | refine W.block ?_ | (refine rg [] ?_; intro K hK) | (refine dr [] ?_; intro K hK) | refine cle [0, 1, 2] 0 (ca) ?_ | refine cle [0, 1, 2] 0 (cb) ?_ | refine cle [0, 1, 2] 0 (cc) ?_ | refine oq ?_ | refine sk ?_ | (refine nk hK ?_; clear hK K) | (refine nd hK ?_; clear hK K) | refine sp ?_ | refine ex ?_ | (refine gs (fun hb => ?_) (fun hb => ?_) <;> replace hb := nb hb <;> try exact noB hb) | (refine cd (fun hb => ?_) (fun hb => ?_) <;> replace hb := nb hb <;> try exact noB hb) | (with_reducible refine Exists.intro _ (And.intro rfl ?_)) | ((with_reducible refine And.intro ?_ ?_); (focus exact sdA)) | fail)
      all_goals (refine rt ?_; refine fin ?_; exact wqA)
  rw [if_neg c3]
  have ca := atom_fn s pos out k lv.reverse top hp (by omega)
  cases hb : bytesS s pos with
  | mk o q =>
    rw [hb] at ca
    cases o with
    | none =>
      refine ⟨k, ?_⟩
      refine en Try.func70 (hfr := by (simp only [Try.ntmps70, go_sem, Nat.reduceSub, Nat.reduceAdd]; rfl)) ?_
      repeat' (first | exact absurd hb Bool.false_ne_true | exact absurd hb.symm Bool.false_ne_true | refine W.seq ?_ | refine W.block ?_ | (refine rg [] ?_; intro K hK) | (refine dr [] ?_; intro K hK) | refine cle [0, 1, 2] 0 (ca) ?_ | refine oq ?_ | refine sk ?_ | (refine nk hK ?_; clear hK K) | (refine nd hK ?_; clear hK K) | refine sp ?_ | refine ex ?_ | (refine gs (fun hb => ?_) (fun hb => ?_) <;> replace hb := nb hb <;> try exact noB hb) | (refine cd (fun hb => ?_) (fun hb => ?_) <;> replace hb := nb hb <;> try exact noB hb) | (with_reducible refine Exists.intro _ (And.intro rfl ?_)) | ((with_reducible refine And.intro ?_ ?_); (focus exact sdA)) | fail)
      all_goals (refine rt ?_; refine fin ?_; exact wqA)
    | some o =>
      have h0 := bytesS_lt s pos o q hp hb
      have e : opOr s pos = o := by unfold opOr; rw [hb]
      rw [e] at ca
      have cc := repeat_fn s q (out ++ [o]) k lv.reverse top (by simp; omega) (by simp; omega) (by omega) (by omega)
      refine ⟨k, ?_⟩
      refine en Try.func70 (hfr := by (simp only [Try.ntmps70, go_sem, Nat.reduceSub, Nat.reduceAdd]; rfl)) ?_
      have e1 : out.map opD ++ [D.agg [.int .i64 o.kind, .bool o.not, spansD o.spans]] = (out ++ [o]).map opD := by rw [List.map_append]; rfl
      repeat' (first | exact absurd hb Bool.false_ne_true | exact absurd hb.symm Bool.false_ne_true | refine W.seq ?_ | refine W.block ?_ | (refine rgx [6] [] ?_; intro K hK) | (refine drx [6] [] ?_; intro K hK) | refine cle [0, 1, 2] 0 (ca) ?_ | refine oq ?_ | refine sk ?_ | (refine nk hK ?_; clear hK K) | (refine nd hK ?_; clear hK K) | refine sp ?_ | refine ex ?_ | (refine gs (fun hb => ?_) (fun hb => ?_) <;> replace hb := nb hb <;> try exact noB hb) | (refine cd (fun hb => ?_) (fun hb => ?_) <;> replace hb := nb hb <;> try exact noB hb) | (with_reducible refine Exists.intro _ (And.intro rfl ?_)) | ((with_reducible refine And.intro ?_ ?_); (focus exact sdA)) | fail)
      rw [e1]
      repeat' (first | exact absurd hb Bool.false_ne_true | exact absurd hb.symm Bool.false_ne_true | refine W.seq ?_ | refine W.block ?_ | (refine rg [] ?_; intro K hK) | (refine dr [] ?_; intro K hK) | refine cle [0, 1, 2] 0 (cc) ?_ | refine oq ?_ | refine sk ?_ | (refine nk hK ?_; clear hK K) | (refine nd hK ?_; clear hK K) | refine sp ?_ | refine ex ?_ | (refine gs (fun hb => ?_) (fun hb => ?_) <;> replace hb := nb hb <;> try exact noB hb) | (refine cd (fun hb => ?_) (fun hb => ?_) <;> replace hb := nb hb <;> try exact noB hb) | (with_reducible refine Exists.intro _ (And.intro rfl ?_)) | ((with_reducible refine And.intro ?_ ?_); (focus exact sdA)) | fail)
      all_goals (refine rt ?_; refine fin ?_; exact wqA)
def runR (s : List UInt8) : Nat → RgS → Int × RgS
  | 0, st => (0, st)
  | n + 1, st => if st.pos < s.length then (if (stepR s st).1 = 0 then runR s n (stepR s st).2 else stepR s st) else (0, st)
def runR0 (s : List UInt8) : Int × RgS := runR s (s.length + 1) ⟨0, [], [], (0, 0)⟩
/-- A pattern's ops; where, and which error. -/
def parseS (s : List UInt8) : List OpS × Nat × Int :=
  if 80 < s.length then ([], 0, 3) else if ¬ (runR0 s).1 = 0 then ([], (runR0 s).2.pos, (runR0 s).1) else if (runR0 s).2.lv ≠ [] then ([], (runR0 s).2.pos, 2) else ((runR0 s).2.out ++ endOps (runR0 s).2.top, 0, 0)
set_option maxHeartbeats 8000000 in
theorem parse_fn (s : List UInt8) : Fn Try.prog 41 [bytes s] [] (.tup [.d (opsD (parseS s).1), i64 (parseS s).2.1, i64 (parseS s).2.2]) [] := by
  unfold parseS
  by_cases hl : 80 < s.length
  · rw [if_pos hl]
    refine en Try.func41 (hfr := by (simp only [Try.ntmps41, go_sem, Nat.reduceSub, Nat.reduceAdd]; rfl)) ?_
    refine W.le (s := 0) rfl fun hm => ?_
    rw [List.length_map] at hm
    repeat' (first | exact absurd hb Bool.false_ne_true | exact absurd hb.symm Bool.false_ne_true | refine W.seq ?_ | refine W.block ?_ | (refine rg [] ?_; intro K hK) | (refine dr [] ?_; intro K hK) | refine oq ?_ | refine sk ?_ | (refine nk hK ?_; clear hK K) | (refine nd hK ?_; clear hK K) | refine sp ?_ | refine ex ?_ | (refine gs (fun hb => ?_) (fun hb => ?_) <;> replace hb := nb hb <;> try exact noB hb) | (refine cd (fun hb => ?_) (fun hb => ?_) <;> replace hb := nb hb <;> try exact noB hb) | (with_reducible refine Exists.intro _ (And.intro rfl ?_)) | ((with_reducible refine And.intro ?_ ?_); (focus exact sdA)) | fail)
    all_goals (refine rt ?_; refine fin ?_; exact wqA)
  rw [if_neg hl]
  unfold runR0
  generalize hR : runR s (s.length + 1) ⟨0, [], [], (0, 0)⟩ = R
  have cp := put_fn s 0 [] 0 [] (0, 0) (by decide)
  refine en Try.func41 (hfr := by (simp only [Try.ntmps41, go_sem, Nat.reduceSub, Nat.reduceAdd]; rfl)) ?_
  repeat' (first | exact absurd hb Bool.false_ne_true | exact absurd hb.symm Bool.false_ne_true | refine W.seq ?_ | refine W.block ?_ | (refine rgx [4] [] ?_; intro K hK) | (refine drx [4] [] ?_; intro K hK) | refine oq ?_ | refine sk ?_ | (refine nk hK ?_; clear hK K) | (refine nd hK ?_; clear hK K) | refine sp ?_ | refine ex ?_ | (refine gs (fun hb => ?_) (fun hb => ?_) <;> replace hb := nb hb <;> try exact noB hb) | (refine cd (fun hb => ?_) (fun hb => ?_) <;> replace hb := nb hb <;> try exact noB hb) | (with_reducible refine Exists.intro _ (And.intro rfl ?_)) | ((with_reducible refine And.intro ?_ ?_); (focus exact sdA)) | fail)
  refine W.ent (Ent.more 2) ?_
  refine W.ent (Ent.nilOwnC (i := 1) (j := 0) (q := 3) (e := 138) (us := [bytes s, i64 0, .own 3 [] 1, .nil]) rfl rfl (by decide) ?_) ?_
  · skip
    repeat' (first | exact NoL.nil | refine NoL.own ?_ | refine NoL.cons ?_ ?_ | exact Wk.any | exact Wk.rfl)
  refine W.ent (Ent.nilHdC (i := 2) (j := 0) (kk := 0) (q := 2) (e := 160) (us := [bytes s, i64 0, .own 3 [] 1, .hd 2 0 0]) rfl rfl ?_) ?_
  · exact .cons .rfl (.cons .rfl (.cons .rfl (.hd .nil)))
  refine W.ent (Ent.to (fr' := (bytes s :: ay 4 (.ptr 0 0 :: ay 44 []))) (σ' := rgo s 0 [] 0 []) ?_ rfl) ?_
  · skip
    exact wkA
  repeat' (first | exact absurd hb Bool.false_ne_true | exact absurd hb.symm Bool.false_ne_true | refine W.seq ?_ | refine W.block ?_ | (refine rgx [5] [] ?_; intro K hK) | (refine drx [5] [] ?_; intro K hK) | refine cle [0, 1, 2] 0 (cp) ?_ | refine oq ?_ | refine sk ?_ | (refine nk hK ?_; clear hK K) | (refine nd hK ?_; clear hK K) | refine sp ?_ | refine ex ?_ | (refine gs (fun hb => ?_) (fun hb => ?_) <;> replace hb := nb hb <;> try exact noB hb) | (refine cd (fun hb => ?_) (fun hb => ?_) <;> replace hb := nb hb <;> try exact noB hb) | (with_reducible refine Exists.intro _ (And.intro rfl ?_)) | ((with_reducible refine And.intro ?_ ?_); (focus exact sdA)) | fail)
  refine W.lp (ι := RgS × Nat × Nat) (fun _ => (bytes s :: ay 4 (.ptr 0 0 :: ay 44 []))) (fun x => rgs s x.2.1 x.1) (fun x => RgI s x.1 ∧ s.length < x.1.pos + x.2.2 ∧ runR s x.2.2 x.1 = R) (fun x => x.2.2) (⟨0, [], [], (0, 0)⟩, 1, s.length + 1) ⟨⟨Nat.zero_le _, Nat.le_refl _, Nat.zero_le _, by simp⟩, by simp only; omega, hR⟩ (Ent.to ?_ rfl) ?_
  · skip
    exact wkA
  rintro ⟨st, k, n⟩ ⟨hI, hn, hS⟩
  simp only at hI hn hS
  dsimp only
  have hI0 := hI
  obtain ⟨i1, i2, i3, i4⟩ := hI0
  cases n with
  | zero => omega
  | succ m =>
    unfold runR at hS
    by_cases hlt : st.pos < s.length
    · rw [if_pos hlt] at hS
      obtain ⟨k', c⟩ := step_fn s st k hI hlt (by omega)
      by_cases he : (stepR s st).1 = 0
      · rw [if_pos he] at hS
        have hn2 := stepR_ok s st hI hlt he
        repeat' (first | exact absurd hb Bool.false_ne_true | exact absurd hb.symm Bool.false_ne_true | refine W.seq ?_ | refine W.block ?_ | (refine rg [] ?_; intro K hK) | (refine dr [] ?_; intro K hK) | refine cle [0, 1, 2] 0 (c) ?_ | refine oq ?_ | refine sk ?_ | (refine nk hK ?_; clear hK K) | (refine nd hK ?_; clear hK K) | refine sp ?_ | refine ex ?_ | (refine gs (fun hb => ?_) (fun hb => ?_) <;> replace hb := nb hb <;> try exact noB hb) | (refine cd (fun hb => ?_) (fun hb => ?_) <;> replace hb := nb hb <;> try exact noB hb) | (with_reducible refine Exists.intro _ (And.intro rfl ?_)) | ((with_reducible refine And.intro ?_ ?_); (focus exact sdA)) | fail)
        refine nx ((stepR s st).2, k', m) ⟨hn2.1, by simp only; omega, hS⟩ (by simp only; omega) (sb [0, 1, 2] _ _ (hf := ?_))
        exact wkA
      · rw [if_neg he] at hS
        subst hS
        rw [if_pos he]
        repeat' (first | exact absurd hb Bool.false_ne_true | exact absurd hb.symm Bool.false_ne_true | refine W.seq ?_ | refine W.block ?_ | (refine rg [] ?_; intro K hK) | (refine dr [] ?_; intro K hK) | refine cle [0, 1, 2] 0 (c) ?_ | refine oq ?_ | refine sk ?_ | (refine nk hK ?_; clear hK K) | (refine nd hK ?_; clear hK K) | refine sp ?_ | refine ex ?_ | (refine gs (fun hb => ?_) (fun hb => ?_) <;> replace hb := nb hb <;> try exact noB hb) | (refine cd (fun hb => ?_) (fun hb => ?_) <;> replace hb := nb hb <;> try exact noB hb) | (with_reducible refine Exists.intro _ (And.intro rfl ?_)) | ((with_reducible refine And.intro ?_ ?_); (focus exact sdA)) | fail)
        all_goals (refine rt ?_; refine fin ?_; exact wqA)
    · rw [if_neg hlt] at hS
      subst hS
      rw [if_neg (by simp)]
      have hrl : st.lv.reverse.length = st.lv.length := List.length_reverse
      by_cases hv : st.lv = []
      · rw [if_neg (by simp [hv])]
        rw [hv] at hrl i3
        have cb := branch_fn s st.pos st.out k st.lv.reverse st.top (by omega) (by rw [hv]; simp) (by have := i4 st.top (by simp); omega)
        have hrl2 : st.lv.reverse.length = 0 := by rw [hv]; rfl
        repeat' (first | exact absurd hb Bool.false_ne_true | exact absurd hb.symm Bool.false_ne_true | refine W.seq ?_ | refine W.block ?_ | (refine rg [] ?_; intro K hK) | (refine dr [] ?_; intro K hK) | refine cle [0, 1, 2] 0 (cb) ?_ | refine oq ?_ | refine sk ?_ | (refine nk hK ?_; clear hK K) | (refine nd hK ?_; clear hK K) | refine sp ?_ | refine ex ?_ | (refine gs (fun hb => ?_) (fun hb => ?_) <;> replace hb := nb hb <;> try exact noB hb) | (refine cd (fun hb => ?_) (fun hb => ?_) <;> replace hb := nb hb <;> try exact noB hb) | (with_reducible refine Exists.intro _ (And.intro rfl ?_)) | ((with_reducible refine And.intro ?_ ?_); (focus exact sdA)) | fail)
        all_goals (refine rt ?_; refine fin ?_; exact wqA)
      · rw [if_pos hv]
        have hv2 : st.lv.length ≠ 0 := fun h => hv (List.eq_nil_of_length_eq_zero h)
        repeat' (first | exact absurd hb Bool.false_ne_true | exact absurd hb.symm Bool.false_ne_true | refine W.seq ?_ | refine W.block ?_ | (refine rg [] ?_; intro K hK) | (refine dr [] ?_; intro K hK) | refine oq ?_ | refine sk ?_ | (refine nk hK ?_; clear hK K) | (refine nd hK ?_; clear hK K) | refine sp ?_ | refine ex ?_ | (refine gs (fun hb => ?_) (fun hb => ?_) <;> replace hb := nb hb <;> try exact noB hb) | (refine cd (fun hb => ?_) (fun hb => ?_) <;> replace hb := nb hb <;> try exact noB hb) | (with_reducible refine Exists.intro _ (And.intro rfl ?_)) | ((with_reducible refine And.intro ?_ ?_); (focus exact sdA)) | fail)
        all_goals (refine rt ?_; refine fin ?_; exact wqA)
end Go.Proofs.Ytgebfcdcpmmgnaa.Vs
